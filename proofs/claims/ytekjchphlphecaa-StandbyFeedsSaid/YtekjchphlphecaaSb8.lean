import Derived.Test.YtekjchphlphecaaSb7
namespace Go.Proofs.Ytekjchphlphecaa
open Go.RowKit Go.ChangeMaps Go.MapKept
attribute [local go_sem] Go.Oper.rdK
set_option linter.unusedVariables false
set_option linter.unusedSimpArgs false
set_option maxHeartbeats 8000000

/-- While it is fed. -/
structure FdI (w0 w wr : World) (p g rl : Nat) (lv lv' : Value) (s : SS) : Prop where
  at_ : StAt w0 wr p g rl lv' s
  chg : Chg (stFp p g rl lv) w wr
  new : ∀ k, OwnB lv' k → OwnB lv k ∨ w.heap.size ≤ k
theorem StAt.fp {w0 w : World} {p g rl : Nat} {lv : Value} {s : SS} (h : StAt w0 w p g rl lv s) : ∀ k, stFp p g rl lv k → w0.heap.size ≤ k := by
  rintro k (rfl | rfl | rfl | hk)
  · exact h.ge.1
  · exact h.ge.2.1
  · exact h.ge.2.2
  · exact (h.lst.ge hk).1
theorem StAt.fpl {w0 w : World} {p g rl : Nat} {lv : Value} {s : SS} (h : StAt w0 w p g rl lv s) : ∀ k, stFp p g rl lv k → k < w.heap.size := by
  rintro k (rfl | rfl | rfl | hk)
  · exact lt_of_block h.blk
  · exact lt_of_block h.pgs
  · exact h.mp.lt
  · exact (h.lst.ge hk).2
theorem FdI.in0 {w0 w wr : World} {p g rl : Nat} {lv lv' : Value} {s s0 : SS} (h : FdI w0 w wr p g rl lv lv' s) (hA : Chg NoB w0 w) (h0 : StAt w0 w p g rl lv s0) : Chg NoB w0 wr := hA.trans h.chg (fun k hk => .inr (h0.fp k hk))
theorem FdI.keep0 {w0 w wr w' : World} {p g rl : Nat} {lv lv' : Value} {s : SS} (h : FdI w0 w wr p g rl lv lv' s) (hc : Chg NoB wr w') : FdI w0 w w' p g rl lv lv' s := ⟨h.at_.keep0 hc, h.chg.trans hc (fun _ e => e.elim), h.new⟩
theorem FdI.step {w0 w wr w' : World} {p g rl : Nat} {lv lv' lv'' : Value} {s s' : SS} (h : FdI w0 w wr p g rl lv lv' s) (h1 : StAt w0 w' p g rl lv'' s') (h2 : Chg (stFp p g rl lv') wr w') (h3 : ∀ k, OwnB lv'' k → OwnB lv' k ∨ wr.heap.size ≤ k) : FdI w0 w w' p g rl lv lv'' s' := by
  have hz := h.chg.size
  refine ⟨h1, h.chg.trans h2 fun k hk => ?_, fun k hk => ?_⟩
  · rcases hk with h4 | h4 | h4 | h4
    · exact .inl (.inl h4)
    · exact .inl (.inr (.inl h4))
    · exact .inl (.inr (.inr (.inl h4)))
    · exact (h.new k h4).imp (fun h5 => .inr (.inr (.inr h5))) id
  · rcases h3 k hk with h4 | h4
    · exact h.new k h4
    · right; omega
theorem sStep_len (l : List Ent) : ∀ u : Int × SS, 0 ≤ u.1 → (l.foldl sStep u).2.L.length ≤ u.2.L.length + l.length ∧ 0 ≤ (l.foldl sStep u).1 ∧ (l.foldl sStep u).1 ≤ u.1 + l.length := by
  induction l with
  | nil => intro u hu; simp; exact hu
  | cons x l ih =>
    intro u hu
    simp only [List.foldl_cons, List.length_cons]
    have h1 : 0 ≤ (sStep u x).1 ∧ (sStep u x).1 ≤ u.1 + 1 ∧ (sStep u x).2.L.length ≤ u.2.L.length + 1 := by
      unfold sStep
      split
      · simp [sTake]; omega
      · simp; omega
    obtain ⟨h2, h3, h4⟩ := ih (sStep u x) h1.1
    refine ⟨by omega, h3, by push_cast; omega⟩

/-- A list of entries that lies outside of fp; their tables lie outside of all that is new. -/
def EntsF (w0 w : World) (fp : Nat → Prop) (v : Value) (l : List Ent) : Prop :=
  ∃ a c, v = .slice a l.length c ∧ l.length ≤ c ∧ l.length ≤ maxLen ∧ ∀ i x, l[i]? = some x → ∃ b off v1 v2, a = some ⟨b, off, none⟩ ∧ EtAt w b (off + i * 12) x v1 v2 ∧ ¬ fp b ∧ EntK (NewK w0) w (x, v1, v2) ∧ (v1.oneCell' = true ∧ v2.oneCell' = true)
theorem EntsF.at {w0 w wr : World} {fp : Nat → Prop} {a : Option Addr} {l : List Ent} (h : ∀ i x, l[i]? = some x → ∃ b off v1 v2, a = some ⟨b, off, none⟩ ∧ EtAt w b (off + i * 12) x v1 v2 ∧ ¬ fp b ∧ EntK (NewK w0) w (x, v1, v2) ∧ (v1.oneCell' = true ∧ v2.oneCell' = true))
    (hc : Chg fp w wr) (hfp : ∀ k, fp k → NewK w0 k) (k : Nat) (hk : k < l.length) : ∃ x b off v1 v2, Hid (l[k] = x) ∧ a = some ⟨b, off, none⟩ ∧ Hid (EntK (NewK w0) wr (x, v1, v2)) ∧ EtAt wr b (off + k * 12) x v1 v2 ∧ (v1.oneCell' = true ∧ v2.oneCell' = true) := by
  obtain ⟨b, off, v1, v2, ha, h2, h3, h4, h5⟩ := h k _ (List.getElem?_eq_getElem hk)
  exact ⟨l[k], b, off, v1, v2, rfl, ha, hid (h4.keep hc fun j hj => .inl (hfp j hj)), h2.keep hc h3, h5⟩
theorem EntsF.of {w0 w : World} {fp : Nat → Prop} {v : Value} {l : List Ent} (h : Ents w0 v l) (hA : Chg NoB w0 w) (hfp : ∀ k, fp k → NewK w0 k) : EntsF w0 w fp v l := by
  obtain ⟨a, c, h1, h2, h3, h4⟩ := h
  refine ⟨a, c, h1, h2, h3, fun i x hi => ?_⟩
  have hk := (List.getElem?_eq_some_iff.1 hi).1
  have hx := (List.getElem?_eq_some_iff.1 hi).2
  obtain ⟨y, b, off, v1, v2, hy, ha, ht, hok, hE, hbl, hone⟩ := Ents.at h4 hA i hk
  have : y = x := hy.out.symm.trans hx
  subst this
  exact ⟨b, off, v1, v2, ha, hE, fun h => by have := hfp b h; unfold NewK at this; omega, entK_new ht hok.out hA (fun k hk => hk), hone⟩

set_option maxRecDepth 100000 in
theorem feed_callsF (w0 : World) (p g rl : Nat) (lv : Value) (s : SS) (v : Value) (l : List Ent) (w : World) (h : StAt w0 w p g rl lv s) (hv : EntsF w0 w (stFp p g rl lv) v l) (hok : ∀ x ∈ l, x.r.okk) (hl : s.L.length + l.length ≤ 1000000) (n er : Int) (s' : SS) (hres : Hid ((n, er, s') = sFeed s l)) :
    Calls Try.prog 11 #[.pointer (some ⟨p, 0, none⟩), v] w fun e w' => e = .returned (.tuple #[.int .i64 n, .int .i64 er]) ∧ ∃ lv', Hid (FdI w0 w w' p g rl lv lv' s') := by
  obtain ⟨a, c, rfl, h1, h2, h3⟩ := hv
  unfold maxLen at h2
  have H3 := hid h3
  have HH := hid h
  have HF := hid h.fp
  have HK := hid hok
  clear h3 h hok
  go_enter Try.func11, Try.ntmps11
  go_wp2
  go_loopw [4, 13] (fun n4 i wr => n4 = .int .i64 0 ∧ ∃ k : Nat, k ≤ l.length ∧ i = .int .i64 k ∧ Hid (∀ j (hj : j + 1 < k) (h : j + 1 < l.length), l[j].at_ < l[j + 1].at_) ∧ Hid (Chg NoB w wr)) (fun _ i _ => l.length - (intOf i).toNat)
  case atStart => exact ⟨rfl, 0, by omega, rfl, hid (fun j h => by omega), Chg.refl _ _⟩
  case round =>
    obtain ⟨rfl, k, hk, rfl, HE, hc⟩ := hrel
    have hcw : Chg (stFp p g rl lv) w _ := hc.out.mono fun _ e => e.elim
    by_cases hlt : k < l.length
    · obtain ⟨y, b, off, v1, v2, hy, ey, _, hEy, _⟩ := EntsF.at H3.out hcw HF.out k hlt
      have g0 := hEy.1
      by_cases hk0 : k = 0
      · subst hk0
        have hd : decide ((0 : Int) < ((0 : Nat) : Int)) = false := by decide
        clear hcw g0 hEy
        go_wp2
        go_quiet (fail)
        go_wp2
        go_roundw
        case rel => exact ⟨rfl, 1, by omega, by go_num, hid (fun j h => by omega), hc.out.drewN _⟩
        case measure => simp [intOf]; omega
      · obtain ⟨j, rfl⟩ : ∃ j, k = j + 1 := ⟨k - 1, by omega⟩
        obtain ⟨x, b', off', v1', v2', hx, ex, _, hEx, _⟩ := EntsF.at H3.out hcw HF.out j (by omega)
        have g0' := hEx.1
        rw [ey] at ex
        cases ex
        subst ey
        clear hcw hEy hEx
        have hd : decide ((0 : Int) < ((j + 1 : Nat) : Int)) = true := decide_eq_true (by omega)
        have hw : IntKind.i64.wrap (j : Int) = (j : Int) := by rw [IntKind.wrap_i64]; omega
        by_cases hxy : y.at_ ≤ x.at_
        · have hr3 : (n, er, s') = (0, 3, s) := by
            rw [hres.out]
            unfold sFeed
            rw [if_neg]
            intro hri
            have := risesB_iff.1 hri j hlt
            rw [hx.out, hy.out] at this
            omega
          cases hr3
          go_wp2
          go_quiet (fail)
          go_wp2
          go_ret2
          exact ⟨rfl, lv, ⟨HH.out.keep0 (hc.out.drewN _), (hc.out.drewN _).mono fun _ e => e.elim, fun k hk => .inl hk⟩⟩
        · go_wp2
          go_quiet (fail)
          go_wp2
          go_roundw
          case rel =>
            refine ⟨rfl, j + 1 + 1, by omega, by go_num, hid (fun i hi h => ?_), hc.out.drewN _⟩
            by_cases hij : i < j
            · exact HE.out i (by omega) h
            · obtain rfl : i = j := by omega
              rw [hx.out, hy.out]
              omega
          case measure => simp [intOf]; omega
    · obtain rfl : k = l.length := by omega
      have hri : risesB l = true := risesB_iff.2 (fun i hi => HE.out i hi hi)
      obtain ⟨⟨un, us⟩, hu⟩ := named (l.foldl sStep (0, s))
      have HR : Hid (n = un ∧ er = 0 ∧ s' = us) := hid (by
        have h9 := hres.out
        unfold sFeed at h9
        rw [if_pos hri, ← hu.out] at h9
        simpa using h9)
      have hc0 : Hid (Chg NoB w _) := hc
      clear hres hri HE hcw hlt
      go_wp2_with fail
      go_loopw [4, 35] (fun nn i wr => ∃ (k : Nat) (cn : Int) (lv' : Value) (sk : SS), k ≤ l.length ∧ 0 ≤ cn ∧ cn ≤ k ∧ i = .int .i64 k ∧ nn = .int .i64 cn ∧ Hid ((cn, sk) = (l.take k).foldl sStep (0, s)) ∧ Hid (FdI w0 w wr p g rl lv lv' sk)) (fun _ i _ => l.length - (intOf i).toNat)
      case atStart => exact ⟨0, 0, lv, s, by omega, by omega, by omega, rfl, rfl, rfl, ⟨HH.out.keep0 hc.out, hc.out.mono fun _ e => e.elim, fun k hk => .inl hk⟩⟩
      case round =>
        obtain ⟨k, cn, lv', sk, hk2, hcn0, hck, rfl, rfl, hs, hF⟩ := hrel
        by_cases hlt : k < l.length
        · obtain ⟨x, b, off, v1, v2, hx, rfl, HT, hE, hone⟩ := EntsF.at H3.out hF.out.chg HF.out k hlt
          obtain ⟨⟨a1, n1, e1, _, _, _⟩, ⟨a2, n2, e2, _, _, _⟩⟩ := HT.out.tabs
          simp only at e1 e2
          subst e1 e2
          obtain ⟨c0, q0, q1, q2, q3, q4, q5, q6, q7, q8, q9, q10⟩ := hE.cells
          have hsn : Hid ((l.take (k + 1)).foldl sStep (0, s) = sStep (cn, sk) x) := hid (by rw [take_snoc' hlt, List.foldl_append, ← hs.out, hx.out]; rfl)
          have hskl : sk.L.length ≤ s.L.length + k := by
            have := (sStep_len (l.take k) (0, s) (by simp)).1
            rw [← hs.out] at this
            simp at this
            omega
          have hxk : x.r.okk := HK.out _ (by rw [← hx.out]; exact List.getElem_mem _)
          clear hE
          go_upto_region 12 with fail
          refine wp_gen (fun W => FdI w0 w W p g rl lv lv' sk ∧ EntK (NewK w0) W (x, .slice a1 x.r.txns.length n1, .slice a2 x.r.pages.length n2) ∧ W.heap[wr.heap.size]? = some (.cells #[.int .i64 x.at_, .int .i64 x.r.kind, .int .i64 x.r.txn, .int .i64 x.r.page, .int .i64 x.r.off, .int .i64 x.r.prev, .int .i64 x.r.next, .int .i64 x.r.beg, .string x.r.before, .string x.r.after, .slice a1 x.r.txns.length n1, .slice a2 x.r.pages.length n2] 57 (0, 0))) ⟨hF.out.keep0 ((Chg.refl _ _).alloc _), HT.out.keep ((Chg.refl NoB _).alloc _) (fun k hk => hk.elim), blk_new _ _⟩ ?_
          rintro W ⟨hFW, hTW, hbx⟩
          replace hTW := hid hTW
          have e0 : W.cell? ⟨wr.heap.size, 0, none⟩ = some (.int .i64 x.at_) := by rw [cell_blk hbx]; rfl
          replace hFW := hid hFW
          replace hbx := hid hbx
          obtain ⟨up, hup⟩ := named (sUpto sk.L)
          obtain ⟨bb, hbb⟩ := named (decide (up < x.at_))
          have hd := hbb.out.symm
          refine wp_region_ord 5 (.rd 0 (.rd 1 (.rd 2 (.one 3 (.rd 4 (.done)))))) (Same W) (by kernel_rfl) (by kernel_rfl) (by kernel_rfl) (by kernel_rfl) (by kernel_rfl) (fun _ _ d _ _ h => by cases d <;> exact h) (Same.of (Chg.refl _ _).drew) (fun hS0 => ?_)
          refine wpOrd_rd rfl rfl (by first | decide | simp) (by assumption) (fun w' hw' K hK => by ((try unfold Same at hw'); (try go_split_ands); go_simp; exact hK)) ?_
          refine wpOrd_rd rfl rfl (by first | decide | simp) (by assumption) (fun w' hw' K hK => by ((try unfold Same at hw'); (try go_split_ands); go_simp; exact hK)) ?_
          refine wpOrd_rd rfl rfl (by first | decide | simp) (by assumption) (fun w' hw' K hK => by ((try unfold Same at hw'); (try go_split_ands); go_simp; exact hK)) ?_
          refine wpOrd_do rfl ?_
          (first | refine wpList_plain rfl (fun K hK => ?_) | refine wpList_step (fun K hK => ?_))
          go_simp
          ((with_reducible refine (upto_calls w0 p g rl lv' sk _ (hFW.out.at_.keep0 (Chg.refl NoB _).drew) (by omega) up hup).mono ?_); rintro e w2 ⟨rfl, hc2⟩)
          refine hK _ _ ?_
          clear hK K
          (try dsimp only [Act.put])
          refine wpOrd_done (Same.of ((Chg.refl NoB W).drew.trans' hc2)) (fun hS1 => ?_)
          refine wpOrd_rd rfl rfl (by first | decide | simp) (by assumption) (fun w' hw' K hK => by ((try unfold Same at hw'); (try go_split_ands); go_simp; exact hK)) ?_
          refine wpOrd_nil ?_
          have hc9 : Chg NoB W w2 := (Chg.refl NoB W).drew.trans' hc2
          have hF2 := hid (hFW.out.keep0 hc9)
          have HT2 := hid (hTW.out.keep hc9 (fun k hk => hk.elim))
          have hb2 := hid (hc9.heap hbx.out nob)
          have hST : Hid (sStep (cn, sk) x = if bb then (cn + 1, sTake sk x) else (cn, sk)) := hid (by rw [hbb.out]; unfold sStep; rw [hup.out]; by_cases h0 : sUpto sk.L < x.at_ <;> simp [h0])
          clear hc2 hc9 hS0 e0 c0 q0 q1 q2 q3 q4 q5 q6 q7 q8 q9 q10
          cases bb
          · go_wp2_with fail
            go_roundw
            case rel => exact ⟨k + 1, cn, lv', sk, by omega, by omega, by omega, by go_num, rfl, hid (by rw [hsn.out, hST.out]; rfl), hF2⟩
            case measure => simp [intOf]; omega
          · obtain ⟨st, hst⟩ := named (sTake sk x)
            have hw : IntKind.i64.wrap (cn + 1) = cn + 1 := by rw [IntKind.wrap_i64]; omega
            go_wp2_with (first
              | ((fail_if_success (fail_if_success (with_reducible change wpList _ _ _ (Oper.mk _ (.load 57 _) _ _ _ _ :: _) _ _))); refine step_loadRow rfl rfl wr.heap.size rfl hb2.out Try.underlying57 (by kernel_rfl) ?_)
              | (go_at_call 28; refine (take_calls w0 p g rl lv' sk x _ _ _ hF2.out.at_ hxk HT2.out.fit hone HT2.out (by omega) st hst).mono ?_; rintro en w3 ⟨rfl, lv3, hI3⟩))
            go_roundw
            case rel => exact ⟨k + 1, cn + 1, lv3, st, by omega, by omega, by omega, by go_num, rfl, hid (by rw [hsn.out, hST.out, hst.out]; rfl), hid (hF2.out.step hI3.out.1 hI3.out.2.1 hI3.out.2.2)⟩
            case measure => simp [intOf]; omega
        · obtain rfl : k = l.length := by omega
          have hfin : Hid (cn = n ∧ er = 0 ∧ sk = s') := hid (by
            have h9 := hs.out
            rw [List.take_length, ← hu.out] at h9
            obtain ⟨r1, r2, r3⟩ := HR.out
            cases h9
            exact ⟨r1.symm, r2, r3.symm⟩)
          obtain ⟨r1, r2, r3⟩ := hfin.out
          subst r1 r2 r3
          go_wp2_with fail
          go_ret2
          exact ⟨rfl, lv', hF⟩
theorem feed_calls (w0 : World) (p g rl : Nat) (lv : Value) (s : SS) (v : Value) (l : List Ent) (w : World) (hA : Chg NoB w0 w) (h : StAt w0 w p g rl lv s) (hv : Ents w0 v l) (hok : ∀ x ∈ l, x.r.okk) (hl : s.L.length + l.length ≤ 1000000) (n er : Int) (s' : SS) (hres : Hid ((n, er, s') = sFeed s l)) :
    Calls Try.prog 11 #[.pointer (some ⟨p, 0, none⟩), v] w fun e w' => e = .returned (.tuple #[.int .i64 n, .int .i64 er]) ∧ ∃ lv', Hid (FdI w0 w w' p g rl lv lv' s') :=
  feed_callsF w0 p g rl lv s v l w h (EntsF.of hv hA h.fp) hok hl n er s' hres
end Go.Proofs.Ytekjchphlphecaa
