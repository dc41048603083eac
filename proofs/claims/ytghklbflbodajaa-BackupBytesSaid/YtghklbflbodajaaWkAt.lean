import Derived.Test.YtghklbflbodajaaBin
namespace Go.Proofs.Ytghklbflbodajaa
open Go.RowKit Go.ChangeMaps
set_option linter.unusedVariables false
set_option linter.unusedSimpArgs false
set_option linter.unnecessarySimpa false

/-- What the walker's at answers. -/
def WAns (l : List Ent) (q : Nat) (v : Value) (txn : Int) (stop : Option Addr) (p : Int) (w' : World) (e : Ending) : Prop :=
  (entAt l p = none ∧ WkAt w' q v txn stop 7 ∧ e = .returned (.tuple #[.agg #[.int .i64 0, .int .i64 0, .int .i64 0, .int .i64 0, .int .i64 0, .int .i64 0, .int .i64 0, .string ⟨#[]⟩, .string ⟨#[]⟩, .slice none 0 0, .slice none 0 0], .bool false])) ∨
  ∃ r a1 n1 c1 a2 n2 c2, entAt l p = some r ∧ Tabs w' r (.slice a1 n1 c1) (.slice a2 n2 c2) ∧ WkAt w' q v txn stop (if recBad txn p r then 1 else 0) ∧
    e = .returned (.tuple #[.agg #[.int .i64 r.kind, .int .i64 r.txn, .int .i64 r.page, .int .i64 r.off, .int .i64 r.prev, .int .i64 r.next, .int .i64 r.beg, .string r.before, .string r.after, .slice a1 n1 c1, .slice a2 n2 c2], .bool (!recBad txn p r)])

set_option maxRecDepth 100000 in
set_option maxHeartbeats 8000000 in
theorem wat_none (w0 : World) (q : Nat) (v : Value) (l : List Ent) (txn : Int) (stop : Option Addr) (p : Int) (w : World) (h : WkAt w q v txn stop 0) (hv : Ents w0 v l) (hq : Chg NoB w0 w) (hq2 : w0.heap.size ≤ q) (hr : risesB l = true) (hl : l.length ≤ 1000000) (hn : entAt l p = none) :
    Calls Try.prog 76 #[.pointer (some ⟨q, 0, none⟩), .int .i64 p] w fun e w' => WAns l q v txn stop p w' e ∧ Chg (OneB q) w w' := by
  obtain ⟨c0, c1, c2, c3, c4⟩ := h.cells
  have HW := hid h
  have hqs := lt_of_block h
  have hne : w.heap.size ≠ q := by omega
  have c43 := c4 3
  have hv1 := hid (hv.mono hq)
  have hfv : ∃ a n c, v = .slice a n c := by obtain ⟨a, c, rfl, _⟩ := hv; exact ⟨_, _, _, rfl⟩
  obtain ⟨a, n, c, rfl⟩ := hfv
  have HN := hid hn
  clear c4 h hn hv
  go_enter Try.func76, Try.ntmps76
  go_wp2_with (first
    | (go_at_call 82
       refine (bin_calls _ l p _ (hv1.out.mono ((Chg.refl NoB w).alloc _)) hr hl).mono ?_
       rintro e w' ⟨hb | hb, hc'⟩
       case inr => obtain ⟨i, hi, h1, h2, h3⟩ := hb; rw [HN.out] at h2; cases h2
       obtain ⟨_, i, rfl⟩ := hb
       have C1 := hid (((Chg.refl NoB w).alloc _).trans' hc')
       have d3 := C1.out.cell c3 (fun e => e)
       have d43 := (C1.out.frozen (p := ⟨q, 3, none⟩) hqs (fun e => e)).trans c43
       have HG := hid (hc'.heap (blk_new _ _) (fun e => e))
       clear hc')
    | ((fail_if_success (fail_if_success (with_reducible change wpList _ _ _ (Oper.mk _ (.load 78 _) _ _ _ _ :: _) _ _))); refine step_loadRow rfl rfl w.heap.size rfl (blk_setCell_other HG.out hne _) Try.underlying78 (by kernel_rfl) ?_)
    | ((fail_if_success (fail_if_success (with_reducible change wpList _ _ _ (Oper.mk _ (.store 78 _ _) _ _ _ _ :: _) _ _))); refine step_storeRow rfl rfl w.heap.size rfl rfl (blk_setCell_other HG.out hne _) (by kernel_rfl) rfl (by simp [Value.oneCell']) ?_; intro w2 hb2 hc2 hs2))
  refine bodyPost_ret (res_row2 Try.underlying78 rfl _ _ w.heap.size rfl hb2 (by kernel_rfl)) rfl ?_
  have hwk := ((HW.out.keep C1.out (fun e => e)).setErr 7).keep hc2 (fun e => hne e.symm)
  exact ⟨.inl ⟨HN.out, hwk, rfl⟩, ((C1.out.mono (T := OneB q) (fun i h => h.elim)).setCell (.inl (OneB.self q)) _).trans hc2 (fun i hi => by cases hi; exact .inr (Nat.le_refl _))⟩

theorem recBad_iff {txn p : Int} {r : Rec} : recBad txn p r = true ↔ (¬ r.kind = 1 ∧ ¬ r.kind = 2) ∨ ¬ r.txn = txn ∨ p ≤ r.prev ∨ (r.kind = 2 ∧ p ≤ r.next) := by
  unfold recBad
  simp only [Bool.or_eq_true, Bool.and_eq_true, Bool.not_eq_true', Bool.or_eq_false_iff, beq_iff_eq, bne_iff_ne, decide_eq_true_eq, beq_eq_false_iff_ne]

set_option maxRecDepth 100000 in
set_option maxHeartbeats 8000000 in
theorem wat_kind (w0 : World) (q : Nat) (v : Value) (l : List Ent) (txn : Int) (stop : Option Addr) (p : Int) (w : World) (h : WkAt w q v txn stop 0) (hv : Ents w0 v l) (hq : Chg NoB w0 w) (hq2 : w0.heap.size ≤ q) (hr : risesB l = true) (hl : l.length ≤ 1000000) (x : Rec) (hn : entAt l p = some x) (k1 : (x.kind == 1) = false) (k2 : (x.kind == 2) = false) :
    Calls Try.prog 76 #[.pointer (some ⟨q, 0, none⟩), .int .i64 p] w fun e w' => WAns l q v txn stop p w' e ∧ Chg (OneB q) w w' := by
  have hbad : recBad txn p x = true := by first | exact recBad_iff.2 (by simp at *; omega) | (rw [Bool.eq_false_iff]; intro hb; have := recBad_iff.1 hb; simp at *; omega)
  have HB := hid hbad
  obtain ⟨c0, c1, c2, c3, c4⟩ := h.cells
  have HW := hid h
  have hqs := lt_of_block h
  have hne : w.heap.size ≠ q := by omega
  have c43 := c4 3
  have hv1 := hid (hv.mono hq)
  have HV := hid hv
  have hfv : ∃ a c, v = .slice a l.length c ∧ l.length ≤ c ∧ (∀ i x, l[i]? = some x → ∃ cs b off, EntAt w0 x cs ∧ cs.length = 12 ∧ a = some ⟨b, off, none⟩ ∧ ∀ j u, cs[j]? = some u → w0.cell? ⟨b, off + i * 12 + j, none⟩ = some u) := by obtain ⟨a, c, rfl, h5, _, h4⟩ := hv; exact ⟨_, _, rfl, h5, h4⟩
  obtain ⟨a, c, rfl, hlc, he⟩ := hfv
  have HE := hid he
  have HQ := hid hq
  have HN := hid hn
  clear c4 h hn hv hbad he hq
  go_enter Try.func76, Try.ntmps76
  go_wp2_with (first
    | (go_at_call 82
       refine (bin_calls _ l p _ (hv1.out.mono ((Chg.refl NoB w).alloc _)) hr hl).mono ?_
       rintro e w' ⟨hb | hb, hc'⟩
       case inl => obtain ⟨h1, _⟩ := hb; rw [HN.out] at h1; cases h1
       obtain ⟨i, hi, h1, h2, rfl⟩ := hb
       have C1 := hid (((Chg.refl NoB w).alloc _).trans' hc')
       have d0 := C1.out.cell c0 (fun e => e)
       have HG := hid (hc'.heap (blk_new _ _) (fun e => e))
       obtain ⟨y, b, off, v1, v2, hx, rfl, ht, _, g0, g1, g2, g3, g4, g5, g6, g7, g8, g9, g10, g11⟩ := Ents.cells HE.out (HQ.out.trans' C1.out) i hi
       obtain ⟨⟨a1, n1, s1, rfl⟩, ⟨a2, n2, s2, rfl⟩⟩ := ht.form
       have HT := hid ht
       have hyx : y.r = x := by rw [← hx.out]; rw [HN.out] at h2; exact (Option.some.inj h2).symm
       rw [hyx] at g1 g2 g3 g4 g5 g6 g7 g8 g9
       have HYX := hid hyx
       clear hc' h1 h2 g0 ht hyx)
    | ((fail_if_success (fail_if_success (with_reducible change wpList _ _ _ (Oper.mk _ (.store 78 _ _) _ _ _ _ :: _) _ _))); refine step_storeRow rfl rfl w.heap.size (cells := #[.int .i64 x.kind, .int .i64 x.txn, .int .i64 x.page, .int .i64 x.off, .int .i64 x.prev, .int .i64 x.next, .int .i64 x.beg, .string x.before, .string x.after, .slice a1 n1 s1, .slice a2 n2 s2]) rfl rfl HG.out (by kernel_rfl) rfl (by simp [Value.oneCell']) ?_
       intro w2 hb2 hc2 hs2
       obtain ⟨b0, b1, b2, b3, b4, b5, b6, b7, b8, b9, b10⟩ := Rec.blk hb2
       have d1 := hc2.cell (C1.out.cell c1 (fun e => e)) (fun e => hne e.symm)
       have d43 := (hc2.frozen (p := ⟨q, 3, none⟩) (Nat.lt_of_lt_of_le hqs C1.out.size) (fun e => hne e.symm)).trans ((C1.out.frozen (p := ⟨q, 3, none⟩) hqs (fun e => e)).trans c43)
       have d3 := hc2.cell (C1.out.cell c3 (fun e => e)) (fun e => hne e.symm)
       have C2 := hid (C1.out.trans hc2 (fun i hi => by cases hi; exact .inr (Nat.le_refl _)))
       have HB2 := hid hb2
       clear hb2 hc2 hs2 g1 g2 g3 g4 g5 g6 g7 g8 g9 g10 g11 d0))
  go_quiet (fail)
  go_wp2_with (first
    | ((fail_if_success (fail_if_success (with_reducible change wpList _ _ _ (Oper.mk _ (.load 78 _) _ _ _ _ :: _) _ _))); refine step_loadRow rfl rfl w.heap.size rfl (blk_setCell_other HB2.out hne _) Try.underlying78 (by kernel_rfl) ?_)
    | ((fail_if_success (fail_if_success (with_reducible change wpList _ _ _ (Oper.mk _ (.store 78 _ _) _ _ _ _ :: _) _ _))); refine step_storeRow rfl rfl w.heap.size rfl rfl (blk_setCell_other HB2.out hne _) (by kernel_rfl) rfl (by simp [Value.oneCell']) ?_; intro w3 hb3 hc3 hs3))
  refine bodyPost_ret (res_row2 Try.underlying78 rfl _ _ w.heap.size rfl hb3 (by kernel_rfl)) rfl ?_
  have hwk := (((HW.out.keep C2.out (fun e => e)).drewN nq).setErr 1).keep hc3 (fun e => hne e.symm)
  have C3 := ((C2.out.mono (T := OneB q) (fun i h => h.elim)).drewN nq).setCell (p := ⟨q, 3, none⟩) (.inl (OneB.self q)) (.int .i64 1)
  have C4 := C3.trans hc3 (fun i hi => by cases hi; exact .inr (Nat.le_refl _))
  have htb : Tabs w3 x (.slice a1 n1 s1) (.slice a2 n2 s2) := by
    have := HT.out
    rw [HYX.out] at this
    exact this.mono ((HQ.out.mono (T := NoB) (fun i h => .inl h)).trans C4 (fun i hi => by cases hi; exact .inr hq2))
  exact ⟨.inr ⟨x, _, _, _, _, _, _, HN.out, htb, by rw [HB.out]; exact hwk, by rw [HB.out]; rfl⟩, C4⟩

set_option maxRecDepth 100000 in
set_option maxHeartbeats 8000000 in
theorem wat_txn1 (w0 : World) (q : Nat) (v : Value) (l : List Ent) (txn : Int) (stop : Option Addr) (p : Int) (w : World) (h : WkAt w q v txn stop 0) (hv : Ents w0 v l) (hq : Chg NoB w0 w) (hq2 : w0.heap.size ≤ q) (hr : risesB l = true) (hl : l.length ≤ 1000000) (x : Rec) (hn : entAt l p = some x) (k1 : (x.kind == 1) = true) (k2 : (x.kind == 2) = false) (t1 : (x.txn != txn) = true) :
    Calls Try.prog 76 #[.pointer (some ⟨q, 0, none⟩), .int .i64 p] w fun e w' => WAns l q v txn stop p w' e ∧ Chg (OneB q) w w' := by
  have hbad : recBad txn p x = true := by first | exact recBad_iff.2 (by simp at *; omega) | (rw [Bool.eq_false_iff]; intro hb; have := recBad_iff.1 hb; simp at *; omega)
  have HB := hid hbad
  obtain ⟨c0, c1, c2, c3, c4⟩ := h.cells
  have HW := hid h
  have hqs := lt_of_block h
  have hne : w.heap.size ≠ q := by omega
  have c43 := c4 3
  have hv1 := hid (hv.mono hq)
  have HV := hid hv
  have hfv : ∃ a c, v = .slice a l.length c ∧ l.length ≤ c ∧ (∀ i x, l[i]? = some x → ∃ cs b off, EntAt w0 x cs ∧ cs.length = 12 ∧ a = some ⟨b, off, none⟩ ∧ ∀ j u, cs[j]? = some u → w0.cell? ⟨b, off + i * 12 + j, none⟩ = some u) := by obtain ⟨a, c, rfl, h5, _, h4⟩ := hv; exact ⟨_, _, rfl, h5, h4⟩
  obtain ⟨a, c, rfl, hlc, he⟩ := hfv
  have HE := hid he
  have HQ := hid hq
  have HN := hid hn
  clear c4 h hn hv hbad he hq
  go_enter Try.func76, Try.ntmps76
  go_wp2_with (first
    | (go_at_call 82
       refine (bin_calls _ l p _ (hv1.out.mono ((Chg.refl NoB w).alloc _)) hr hl).mono ?_
       rintro e w' ⟨hb | hb, hc'⟩
       case inl => obtain ⟨h1, _⟩ := hb; rw [HN.out] at h1; cases h1
       obtain ⟨i, hi, h1, h2, rfl⟩ := hb
       have C1 := hid (((Chg.refl NoB w).alloc _).trans' hc')
       have d0 := C1.out.cell c0 (fun e => e)
       have HG := hid (hc'.heap (blk_new _ _) (fun e => e))
       obtain ⟨y, b, off, v1, v2, hx, rfl, ht, _, g0, g1, g2, g3, g4, g5, g6, g7, g8, g9, g10, g11⟩ := Ents.cells HE.out (HQ.out.trans' C1.out) i hi
       obtain ⟨⟨a1, n1, s1, rfl⟩, ⟨a2, n2, s2, rfl⟩⟩ := ht.form
       have HT := hid ht
       have hyx : y.r = x := by rw [← hx.out]; rw [HN.out] at h2; exact (Option.some.inj h2).symm
       rw [hyx] at g1 g2 g3 g4 g5 g6 g7 g8 g9
       have HYX := hid hyx
       clear hc' h1 h2 g0 ht hyx)
    | ((fail_if_success (fail_if_success (with_reducible change wpList _ _ _ (Oper.mk _ (.store 78 _ _) _ _ _ _ :: _) _ _))); refine step_storeRow rfl rfl w.heap.size (cells := #[.int .i64 x.kind, .int .i64 x.txn, .int .i64 x.page, .int .i64 x.off, .int .i64 x.prev, .int .i64 x.next, .int .i64 x.beg, .string x.before, .string x.after, .slice a1 n1 s1, .slice a2 n2 s2]) rfl rfl HG.out (by kernel_rfl) rfl (by simp [Value.oneCell']) ?_
       intro w2 hb2 hc2 hs2
       obtain ⟨b0, b1, b2, b3, b4, b5, b6, b7, b8, b9, b10⟩ := Rec.blk hb2
       have d1 := hc2.cell (C1.out.cell c1 (fun e => e)) (fun e => hne e.symm)
       have d43 := (hc2.frozen (p := ⟨q, 3, none⟩) (Nat.lt_of_lt_of_le hqs C1.out.size) (fun e => hne e.symm)).trans ((C1.out.frozen (p := ⟨q, 3, none⟩) hqs (fun e => e)).trans c43)
       have d3 := hc2.cell (C1.out.cell c3 (fun e => e)) (fun e => hne e.symm)
       have C2 := hid (C1.out.trans hc2 (fun i hi => by cases hi; exact .inr (Nat.le_refl _)))
       have HB2 := hid hb2
       clear hb2 hc2 hs2 g1 g2 g3 g4 g5 g6 g7 g8 g9 g10 g11 d0))
  go_quiet (fail)
  go_wp2_with (first
    | ((fail_if_success (fail_if_success (with_reducible change wpList _ _ _ (Oper.mk _ (.load 78 _) _ _ _ _ :: _) _ _))); refine step_loadRow rfl rfl w.heap.size rfl (blk_setCell_other HB2.out hne _) Try.underlying78 (by kernel_rfl) ?_)
    | ((fail_if_success (fail_if_success (with_reducible change wpList _ _ _ (Oper.mk _ (.store 78 _ _) _ _ _ _ :: _) _ _))); refine step_storeRow rfl rfl w.heap.size rfl rfl (blk_setCell_other HB2.out hne _) (by kernel_rfl) rfl (by simp [Value.oneCell']) ?_; intro w3 hb3 hc3 hs3))
  refine bodyPost_ret (res_row2 Try.underlying78 rfl _ _ w.heap.size rfl hb3 (by kernel_rfl)) rfl ?_
  have hwk := (((HW.out.keep C2.out (fun e => e)).drewN nq).setErr 1).keep hc3 (fun e => hne e.symm)
  have C3 := ((C2.out.mono (T := OneB q) (fun i h => h.elim)).drewN nq).setCell (p := ⟨q, 3, none⟩) (.inl (OneB.self q)) (.int .i64 1)
  have C4 := C3.trans hc3 (fun i hi => by cases hi; exact .inr (Nat.le_refl _))
  have htb : Tabs w3 x (.slice a1 n1 s1) (.slice a2 n2 s2) := by
    have := HT.out
    rw [HYX.out] at this
    exact this.mono ((HQ.out.mono (T := NoB) (fun i h => .inl h)).trans C4 (fun i hi => by cases hi; exact .inr hq2))
  exact ⟨.inr ⟨x, _, _, _, _, _, _, HN.out, htb, by rw [HB.out]; exact hwk, by rw [HB.out]; rfl⟩, C4⟩

set_option maxRecDepth 100000 in
set_option maxHeartbeats 8000000 in
theorem wat_prev1 (w0 : World) (q : Nat) (v : Value) (l : List Ent) (txn : Int) (stop : Option Addr) (p : Int) (w : World) (h : WkAt w q v txn stop 0) (hv : Ents w0 v l) (hq : Chg NoB w0 w) (hq2 : w0.heap.size ≤ q) (hr : risesB l = true) (hl : l.length ≤ 1000000) (x : Rec) (hn : entAt l p = some x) (k1 : (x.kind == 1) = true) (k2 : (x.kind == 2) = false) (t1 : (x.txn != txn) = false) (p1 : p ≤ x.prev) :
    Calls Try.prog 76 #[.pointer (some ⟨q, 0, none⟩), .int .i64 p] w fun e w' => WAns l q v txn stop p w' e ∧ Chg (OneB q) w w' := by
  have hbad : recBad txn p x = true := by first | exact recBad_iff.2 (by simp at *; omega) | (rw [Bool.eq_false_iff]; intro hb; have := recBad_iff.1 hb; simp at *; omega)
  have HB := hid hbad
  obtain ⟨c0, c1, c2, c3, c4⟩ := h.cells
  have HW := hid h
  have hqs := lt_of_block h
  have hne : w.heap.size ≠ q := by omega
  have c43 := c4 3
  have hv1 := hid (hv.mono hq)
  have HV := hid hv
  have hfv : ∃ a c, v = .slice a l.length c ∧ l.length ≤ c ∧ (∀ i x, l[i]? = some x → ∃ cs b off, EntAt w0 x cs ∧ cs.length = 12 ∧ a = some ⟨b, off, none⟩ ∧ ∀ j u, cs[j]? = some u → w0.cell? ⟨b, off + i * 12 + j, none⟩ = some u) := by obtain ⟨a, c, rfl, h5, _, h4⟩ := hv; exact ⟨_, _, rfl, h5, h4⟩
  obtain ⟨a, c, rfl, hlc, he⟩ := hfv
  have HE := hid he
  have HQ := hid hq
  have HN := hid hn
  clear c4 h hn hv hbad he hq
  go_enter Try.func76, Try.ntmps76
  go_wp2_with (first
    | (go_at_call 82
       refine (bin_calls _ l p _ (hv1.out.mono ((Chg.refl NoB w).alloc _)) hr hl).mono ?_
       rintro e w' ⟨hb | hb, hc'⟩
       case inl => obtain ⟨h1, _⟩ := hb; rw [HN.out] at h1; cases h1
       obtain ⟨i, hi, h1, h2, rfl⟩ := hb
       have C1 := hid (((Chg.refl NoB w).alloc _).trans' hc')
       have d0 := C1.out.cell c0 (fun e => e)
       have HG := hid (hc'.heap (blk_new _ _) (fun e => e))
       obtain ⟨y, b, off, v1, v2, hx, rfl, ht, _, g0, g1, g2, g3, g4, g5, g6, g7, g8, g9, g10, g11⟩ := Ents.cells HE.out (HQ.out.trans' C1.out) i hi
       obtain ⟨⟨a1, n1, s1, rfl⟩, ⟨a2, n2, s2, rfl⟩⟩ := ht.form
       have HT := hid ht
       have hyx : y.r = x := by rw [← hx.out]; rw [HN.out] at h2; exact (Option.some.inj h2).symm
       rw [hyx] at g1 g2 g3 g4 g5 g6 g7 g8 g9
       have HYX := hid hyx
       clear hc' h1 h2 g0 ht hyx)
    | ((fail_if_success (fail_if_success (with_reducible change wpList _ _ _ (Oper.mk _ (.store 78 _ _) _ _ _ _ :: _) _ _))); refine step_storeRow rfl rfl w.heap.size (cells := #[.int .i64 x.kind, .int .i64 x.txn, .int .i64 x.page, .int .i64 x.off, .int .i64 x.prev, .int .i64 x.next, .int .i64 x.beg, .string x.before, .string x.after, .slice a1 n1 s1, .slice a2 n2 s2]) rfl rfl HG.out (by kernel_rfl) rfl (by simp [Value.oneCell']) ?_
       intro w2 hb2 hc2 hs2
       obtain ⟨b0, b1, b2, b3, b4, b5, b6, b7, b8, b9, b10⟩ := Rec.blk hb2
       have d1 := hc2.cell (C1.out.cell c1 (fun e => e)) (fun e => hne e.symm)
       have d43 := (hc2.frozen (p := ⟨q, 3, none⟩) (Nat.lt_of_lt_of_le hqs C1.out.size) (fun e => hne e.symm)).trans ((C1.out.frozen (p := ⟨q, 3, none⟩) hqs (fun e => e)).trans c43)
       have d3 := hc2.cell (C1.out.cell c3 (fun e => e)) (fun e => hne e.symm)
       have C2 := hid (C1.out.trans hc2 (fun i hi => by cases hi; exact .inr (Nat.le_refl _)))
       have HB2 := hid hb2
       clear hb2 hc2 hs2 g1 g2 g3 g4 g5 g6 g7 g8 g9 g10 g11 d0))
  go_quiet (fail)
  go_wp2_with (first
    | ((fail_if_success (fail_if_success (with_reducible change wpList _ _ _ (Oper.mk _ (.load 78 _) _ _ _ _ :: _) _ _))); refine step_loadRow rfl rfl w.heap.size rfl (blk_setCell_other HB2.out hne _) Try.underlying78 (by kernel_rfl) ?_)
    | ((fail_if_success (fail_if_success (with_reducible change wpList _ _ _ (Oper.mk _ (.store 78 _ _) _ _ _ _ :: _) _ _))); refine step_storeRow rfl rfl w.heap.size rfl rfl (blk_setCell_other HB2.out hne _) (by kernel_rfl) rfl (by simp [Value.oneCell']) ?_; intro w3 hb3 hc3 hs3))
  refine bodyPost_ret (res_row2 Try.underlying78 rfl _ _ w.heap.size rfl hb3 (by kernel_rfl)) rfl ?_
  have hwk := (((HW.out.keep C2.out (fun e => e)).drewN nq).setErr 1).keep hc3 (fun e => hne e.symm)
  have C3 := ((C2.out.mono (T := OneB q) (fun i h => h.elim)).drewN nq).setCell (p := ⟨q, 3, none⟩) (.inl (OneB.self q)) (.int .i64 1)
  have C4 := C3.trans hc3 (fun i hi => by cases hi; exact .inr (Nat.le_refl _))
  have htb : Tabs w3 x (.slice a1 n1 s1) (.slice a2 n2 s2) := by
    have := HT.out
    rw [HYX.out] at this
    exact this.mono ((HQ.out.mono (T := NoB) (fun i h => .inl h)).trans C4 (fun i hi => by cases hi; exact .inr hq2))
  exact ⟨.inr ⟨x, _, _, _, _, _, _, HN.out, htb, by rw [HB.out]; exact hwk, by rw [HB.out]; rfl⟩, C4⟩

set_option maxRecDepth 100000 in
set_option maxHeartbeats 8000000 in
theorem wat_good1 (w0 : World) (q : Nat) (v : Value) (l : List Ent) (txn : Int) (stop : Option Addr) (p : Int) (w : World) (h : WkAt w q v txn stop 0) (hv : Ents w0 v l) (hq : Chg NoB w0 w) (hq2 : w0.heap.size ≤ q) (hr : risesB l = true) (hl : l.length ≤ 1000000) (x : Rec) (hn : entAt l p = some x) (k1 : (x.kind == 1) = true) (k2 : (x.kind == 2) = false) (t1 : (x.txn != txn) = false) (p1 : x.prev < p) :
    Calls Try.prog 76 #[.pointer (some ⟨q, 0, none⟩), .int .i64 p] w fun e w' => WAns l q v txn stop p w' e ∧ Chg (OneB q) w w' := by
  have hbad : recBad txn p x = false := by first | exact recBad_iff.2 (by simp at *; omega) | (rw [Bool.eq_false_iff]; intro hb; have := recBad_iff.1 hb; simp at *; omega)
  have HB := hid hbad
  obtain ⟨c0, c1, c2, c3, c4⟩ := h.cells
  have HW := hid h
  have hqs := lt_of_block h
  have hne : w.heap.size ≠ q := by omega
  have c43 := c4 3
  have hv1 := hid (hv.mono hq)
  have HV := hid hv
  have hfv : ∃ a c, v = .slice a l.length c ∧ l.length ≤ c ∧ (∀ i x, l[i]? = some x → ∃ cs b off, EntAt w0 x cs ∧ cs.length = 12 ∧ a = some ⟨b, off, none⟩ ∧ ∀ j u, cs[j]? = some u → w0.cell? ⟨b, off + i * 12 + j, none⟩ = some u) := by obtain ⟨a, c, rfl, h5, _, h4⟩ := hv; exact ⟨_, _, rfl, h5, h4⟩
  obtain ⟨a, c, rfl, hlc, he⟩ := hfv
  have HE := hid he
  have HQ := hid hq
  have HN := hid hn
  clear c4 h hn hv hbad he hq
  go_enter Try.func76, Try.ntmps76
  go_wp2_with (first
    | (go_at_call 82
       refine (bin_calls _ l p _ (hv1.out.mono ((Chg.refl NoB w).alloc _)) hr hl).mono ?_
       rintro e w' ⟨hb | hb, hc'⟩
       case inl => obtain ⟨h1, _⟩ := hb; rw [HN.out] at h1; cases h1
       obtain ⟨i, hi, h1, h2, rfl⟩ := hb
       have C1 := hid (((Chg.refl NoB w).alloc _).trans' hc')
       have d0 := C1.out.cell c0 (fun e => e)
       have HG := hid (hc'.heap (blk_new _ _) (fun e => e))
       obtain ⟨y, b, off, v1, v2, hx, rfl, ht, _, g0, g1, g2, g3, g4, g5, g6, g7, g8, g9, g10, g11⟩ := Ents.cells HE.out (HQ.out.trans' C1.out) i hi
       obtain ⟨⟨a1, n1, s1, rfl⟩, ⟨a2, n2, s2, rfl⟩⟩ := ht.form
       have HT := hid ht
       have hyx : y.r = x := by rw [← hx.out]; rw [HN.out] at h2; exact (Option.some.inj h2).symm
       rw [hyx] at g1 g2 g3 g4 g5 g6 g7 g8 g9
       have HYX := hid hyx
       clear hc' h1 h2 g0 ht hyx)
    | ((fail_if_success (fail_if_success (with_reducible change wpList _ _ _ (Oper.mk _ (.store 78 _ _) _ _ _ _ :: _) _ _))); refine step_storeRow rfl rfl w.heap.size (cells := #[.int .i64 x.kind, .int .i64 x.txn, .int .i64 x.page, .int .i64 x.off, .int .i64 x.prev, .int .i64 x.next, .int .i64 x.beg, .string x.before, .string x.after, .slice a1 n1 s1, .slice a2 n2 s2]) rfl rfl HG.out (by kernel_rfl) rfl (by simp [Value.oneCell']) ?_
       intro w2 hb2 hc2 hs2
       obtain ⟨b0, b1, b2, b3, b4, b5, b6, b7, b8, b9, b10⟩ := Rec.blk hb2
       have d1 := hc2.cell (C1.out.cell c1 (fun e => e)) (fun e => hne e.symm)
       have d43 := (hc2.frozen (p := ⟨q, 3, none⟩) (Nat.lt_of_lt_of_le hqs C1.out.size) (fun e => hne e.symm)).trans ((C1.out.frozen (p := ⟨q, 3, none⟩) hqs (fun e => e)).trans c43)
       have d3 := hc2.cell (C1.out.cell c3 (fun e => e)) (fun e => hne e.symm)
       have C2 := hid (C1.out.trans hc2 (fun i hi => by cases hi; exact .inr (Nat.le_refl _)))
       have HB2 := hid hb2
       clear hb2 hc2 hs2 g1 g2 g3 g4 g5 g6 g7 g8 g9 g10 g11 d0))
  go_quiet (fail)
  go_wp2_with (first
    | ((fail_if_success (fail_if_success (with_reducible change wpList _ _ _ (Oper.mk _ (.load 78 _) _ _ _ _ :: _) _ _))); refine step_loadRow rfl rfl w.heap.size rfl HB2.out Try.underlying78 (by kernel_rfl) ?_)
    | ((fail_if_success (fail_if_success (with_reducible change wpList _ _ _ (Oper.mk _ (.store 78 _ _) _ _ _ _ :: _) _ _))); refine step_storeRow rfl rfl w.heap.size rfl rfl HB2.out (by kernel_rfl) rfl (by simp [Value.oneCell']) ?_; intro w3 hb3 hc3 hs3))
  refine bodyPost_ret (res_row2 Try.underlying78 rfl _ _ w.heap.size rfl hb3 (by kernel_rfl)) rfl ?_
  have hwk := ((HW.out.keep C2.out (fun e => e)).drewN nq).keep hc3 (fun e => hne e.symm)
  have C3 := (C2.out.mono (T := OneB q) (fun i h => h.elim)).drewN nq
  have C4 := C3.trans hc3 (fun i hi => by cases hi; exact .inr (Nat.le_refl _))
  have htb : Tabs w3 x (.slice a1 n1 s1) (.slice a2 n2 s2) := by
    have := HT.out
    rw [HYX.out] at this
    exact this.mono ((HQ.out.mono (T := NoB) (fun i h => .inl h)).trans C4 (fun i hi => by cases hi; exact .inr hq2))
  exact ⟨.inr ⟨x, _, _, _, _, _, _, HN.out, htb, by rw [HB.out]; exact hwk, by rw [HB.out]; rfl⟩, C4⟩

set_option maxRecDepth 100000 in
set_option maxHeartbeats 8000000 in
theorem wat_txn2 (w0 : World) (q : Nat) (v : Value) (l : List Ent) (txn : Int) (stop : Option Addr) (p : Int) (w : World) (h : WkAt w q v txn stop 0) (hv : Ents w0 v l) (hq : Chg NoB w0 w) (hq2 : w0.heap.size ≤ q) (hr : risesB l = true) (hl : l.length ≤ 1000000) (x : Rec) (hn : entAt l p = some x) (k1 : (x.kind == 1) = false) (k2 : (x.kind == 2) = true) (t1 : (x.txn != txn) = true) :
    Calls Try.prog 76 #[.pointer (some ⟨q, 0, none⟩), .int .i64 p] w fun e w' => WAns l q v txn stop p w' e ∧ Chg (OneB q) w w' := by
  have hbad : recBad txn p x = true := by first | exact recBad_iff.2 (by simp at *; omega) | (rw [Bool.eq_false_iff]; intro hb; have := recBad_iff.1 hb; simp at *; omega)
  have HB := hid hbad
  obtain ⟨c0, c1, c2, c3, c4⟩ := h.cells
  have HW := hid h
  have hqs := lt_of_block h
  have hne : w.heap.size ≠ q := by omega
  have c43 := c4 3
  have hv1 := hid (hv.mono hq)
  have HV := hid hv
  have hfv : ∃ a c, v = .slice a l.length c ∧ l.length ≤ c ∧ (∀ i x, l[i]? = some x → ∃ cs b off, EntAt w0 x cs ∧ cs.length = 12 ∧ a = some ⟨b, off, none⟩ ∧ ∀ j u, cs[j]? = some u → w0.cell? ⟨b, off + i * 12 + j, none⟩ = some u) := by obtain ⟨a, c, rfl, h5, _, h4⟩ := hv; exact ⟨_, _, rfl, h5, h4⟩
  obtain ⟨a, c, rfl, hlc, he⟩ := hfv
  have HE := hid he
  have HQ := hid hq
  have HN := hid hn
  clear c4 h hn hv hbad he hq
  go_enter Try.func76, Try.ntmps76
  go_wp2_with (first
    | (go_at_call 82
       refine (bin_calls _ l p _ (hv1.out.mono ((Chg.refl NoB w).alloc _)) hr hl).mono ?_
       rintro e w' ⟨hb | hb, hc'⟩
       case inl => obtain ⟨h1, _⟩ := hb; rw [HN.out] at h1; cases h1
       obtain ⟨i, hi, h1, h2, rfl⟩ := hb
       have C1 := hid (((Chg.refl NoB w).alloc _).trans' hc')
       have d0 := C1.out.cell c0 (fun e => e)
       have HG := hid (hc'.heap (blk_new _ _) (fun e => e))
       obtain ⟨y, b, off, v1, v2, hx, rfl, ht, _, g0, g1, g2, g3, g4, g5, g6, g7, g8, g9, g10, g11⟩ := Ents.cells HE.out (HQ.out.trans' C1.out) i hi
       obtain ⟨⟨a1, n1, s1, rfl⟩, ⟨a2, n2, s2, rfl⟩⟩ := ht.form
       have HT := hid ht
       have hyx : y.r = x := by rw [← hx.out]; rw [HN.out] at h2; exact (Option.some.inj h2).symm
       rw [hyx] at g1 g2 g3 g4 g5 g6 g7 g8 g9
       have HYX := hid hyx
       clear hc' h1 h2 g0 ht hyx)
    | ((fail_if_success (fail_if_success (with_reducible change wpList _ _ _ (Oper.mk _ (.store 78 _ _) _ _ _ _ :: _) _ _))); refine step_storeRow rfl rfl w.heap.size (cells := #[.int .i64 x.kind, .int .i64 x.txn, .int .i64 x.page, .int .i64 x.off, .int .i64 x.prev, .int .i64 x.next, .int .i64 x.beg, .string x.before, .string x.after, .slice a1 n1 s1, .slice a2 n2 s2]) rfl rfl HG.out (by kernel_rfl) rfl (by simp [Value.oneCell']) ?_
       intro w2 hb2 hc2 hs2
       obtain ⟨b0, b1, b2, b3, b4, b5, b6, b7, b8, b9, b10⟩ := Rec.blk hb2
       have d1 := hc2.cell (C1.out.cell c1 (fun e => e)) (fun e => hne e.symm)
       have d43 := (hc2.frozen (p := ⟨q, 3, none⟩) (Nat.lt_of_lt_of_le hqs C1.out.size) (fun e => hne e.symm)).trans ((C1.out.frozen (p := ⟨q, 3, none⟩) hqs (fun e => e)).trans c43)
       have d3 := hc2.cell (C1.out.cell c3 (fun e => e)) (fun e => hne e.symm)
       have C2 := hid (C1.out.trans hc2 (fun i hi => by cases hi; exact .inr (Nat.le_refl _)))
       have HB2 := hid hb2
       clear hb2 hc2 hs2 g1 g2 g3 g4 g5 g6 g7 g8 g9 g10 g11 d0))
  go_quiet (fail)
  go_wp2_with (first
    | ((fail_if_success (fail_if_success (with_reducible change wpList _ _ _ (Oper.mk _ (.load 78 _) _ _ _ _ :: _) _ _))); refine step_loadRow rfl rfl w.heap.size rfl (blk_setCell_other HB2.out hne _) Try.underlying78 (by kernel_rfl) ?_)
    | ((fail_if_success (fail_if_success (with_reducible change wpList _ _ _ (Oper.mk _ (.store 78 _ _) _ _ _ _ :: _) _ _))); refine step_storeRow rfl rfl w.heap.size rfl rfl (blk_setCell_other HB2.out hne _) (by kernel_rfl) rfl (by simp [Value.oneCell']) ?_; intro w3 hb3 hc3 hs3))
  refine bodyPost_ret (res_row2 Try.underlying78 rfl _ _ w.heap.size rfl hb3 (by kernel_rfl)) rfl ?_
  have hwk := (((HW.out.keep C2.out (fun e => e)).drewN nq).setErr 1).keep hc3 (fun e => hne e.symm)
  have C3 := ((C2.out.mono (T := OneB q) (fun i h => h.elim)).drewN nq).setCell (p := ⟨q, 3, none⟩) (.inl (OneB.self q)) (.int .i64 1)
  have C4 := C3.trans hc3 (fun i hi => by cases hi; exact .inr (Nat.le_refl _))
  have htb : Tabs w3 x (.slice a1 n1 s1) (.slice a2 n2 s2) := by
    have := HT.out
    rw [HYX.out] at this
    exact this.mono ((HQ.out.mono (T := NoB) (fun i h => .inl h)).trans C4 (fun i hi => by cases hi; exact .inr hq2))
  exact ⟨.inr ⟨x, _, _, _, _, _, _, HN.out, htb, by rw [HB.out]; exact hwk, by rw [HB.out]; rfl⟩, C4⟩

set_option maxRecDepth 100000 in
set_option maxHeartbeats 8000000 in
theorem wat_prev2 (w0 : World) (q : Nat) (v : Value) (l : List Ent) (txn : Int) (stop : Option Addr) (p : Int) (w : World) (h : WkAt w q v txn stop 0) (hv : Ents w0 v l) (hq : Chg NoB w0 w) (hq2 : w0.heap.size ≤ q) (hr : risesB l = true) (hl : l.length ≤ 1000000) (x : Rec) (hn : entAt l p = some x) (k1 : (x.kind == 1) = false) (k2 : (x.kind == 2) = true) (t1 : (x.txn != txn) = false) (p1 : p ≤ x.prev) :
    Calls Try.prog 76 #[.pointer (some ⟨q, 0, none⟩), .int .i64 p] w fun e w' => WAns l q v txn stop p w' e ∧ Chg (OneB q) w w' := by
  have hbad : recBad txn p x = true := by first | exact recBad_iff.2 (by simp at *; omega) | (rw [Bool.eq_false_iff]; intro hb; have := recBad_iff.1 hb; simp at *; omega)
  have HB := hid hbad
  obtain ⟨c0, c1, c2, c3, c4⟩ := h.cells
  have HW := hid h
  have hqs := lt_of_block h
  have hne : w.heap.size ≠ q := by omega
  have c43 := c4 3
  have hv1 := hid (hv.mono hq)
  have HV := hid hv
  have hfv : ∃ a c, v = .slice a l.length c ∧ l.length ≤ c ∧ (∀ i x, l[i]? = some x → ∃ cs b off, EntAt w0 x cs ∧ cs.length = 12 ∧ a = some ⟨b, off, none⟩ ∧ ∀ j u, cs[j]? = some u → w0.cell? ⟨b, off + i * 12 + j, none⟩ = some u) := by obtain ⟨a, c, rfl, h5, _, h4⟩ := hv; exact ⟨_, _, rfl, h5, h4⟩
  obtain ⟨a, c, rfl, hlc, he⟩ := hfv
  have HE := hid he
  have HQ := hid hq
  have HN := hid hn
  clear c4 h hn hv hbad he hq
  go_enter Try.func76, Try.ntmps76
  go_wp2_with (first
    | (go_at_call 82
       refine (bin_calls _ l p _ (hv1.out.mono ((Chg.refl NoB w).alloc _)) hr hl).mono ?_
       rintro e w' ⟨hb | hb, hc'⟩
       case inl => obtain ⟨h1, _⟩ := hb; rw [HN.out] at h1; cases h1
       obtain ⟨i, hi, h1, h2, rfl⟩ := hb
       have C1 := hid (((Chg.refl NoB w).alloc _).trans' hc')
       have d0 := C1.out.cell c0 (fun e => e)
       have HG := hid (hc'.heap (blk_new _ _) (fun e => e))
       obtain ⟨y, b, off, v1, v2, hx, rfl, ht, _, g0, g1, g2, g3, g4, g5, g6, g7, g8, g9, g10, g11⟩ := Ents.cells HE.out (HQ.out.trans' C1.out) i hi
       obtain ⟨⟨a1, n1, s1, rfl⟩, ⟨a2, n2, s2, rfl⟩⟩ := ht.form
       have HT := hid ht
       have hyx : y.r = x := by rw [← hx.out]; rw [HN.out] at h2; exact (Option.some.inj h2).symm
       rw [hyx] at g1 g2 g3 g4 g5 g6 g7 g8 g9
       have HYX := hid hyx
       clear hc' h1 h2 g0 ht hyx)
    | ((fail_if_success (fail_if_success (with_reducible change wpList _ _ _ (Oper.mk _ (.store 78 _ _) _ _ _ _ :: _) _ _))); refine step_storeRow rfl rfl w.heap.size (cells := #[.int .i64 x.kind, .int .i64 x.txn, .int .i64 x.page, .int .i64 x.off, .int .i64 x.prev, .int .i64 x.next, .int .i64 x.beg, .string x.before, .string x.after, .slice a1 n1 s1, .slice a2 n2 s2]) rfl rfl HG.out (by kernel_rfl) rfl (by simp [Value.oneCell']) ?_
       intro w2 hb2 hc2 hs2
       obtain ⟨b0, b1, b2, b3, b4, b5, b6, b7, b8, b9, b10⟩ := Rec.blk hb2
       have d1 := hc2.cell (C1.out.cell c1 (fun e => e)) (fun e => hne e.symm)
       have d43 := (hc2.frozen (p := ⟨q, 3, none⟩) (Nat.lt_of_lt_of_le hqs C1.out.size) (fun e => hne e.symm)).trans ((C1.out.frozen (p := ⟨q, 3, none⟩) hqs (fun e => e)).trans c43)
       have d3 := hc2.cell (C1.out.cell c3 (fun e => e)) (fun e => hne e.symm)
       have C2 := hid (C1.out.trans hc2 (fun i hi => by cases hi; exact .inr (Nat.le_refl _)))
       have HB2 := hid hb2
       clear hb2 hc2 hs2 g1 g2 g3 g4 g5 g6 g7 g8 g9 g10 g11 d0))
  go_quiet (fail)
  go_wp2_with (first
    | ((fail_if_success (fail_if_success (with_reducible change wpList _ _ _ (Oper.mk _ (.load 78 _) _ _ _ _ :: _) _ _))); refine step_loadRow rfl rfl w.heap.size rfl (blk_setCell_other HB2.out hne _) Try.underlying78 (by kernel_rfl) ?_)
    | ((fail_if_success (fail_if_success (with_reducible change wpList _ _ _ (Oper.mk _ (.store 78 _ _) _ _ _ _ :: _) _ _))); refine step_storeRow rfl rfl w.heap.size rfl rfl (blk_setCell_other HB2.out hne _) (by kernel_rfl) rfl (by simp [Value.oneCell']) ?_; intro w3 hb3 hc3 hs3))
  refine bodyPost_ret (res_row2 Try.underlying78 rfl _ _ w.heap.size rfl hb3 (by kernel_rfl)) rfl ?_
  have hwk := (((HW.out.keep C2.out (fun e => e)).drewN nq).setErr 1).keep hc3 (fun e => hne e.symm)
  have C3 := ((C2.out.mono (T := OneB q) (fun i h => h.elim)).drewN nq).setCell (p := ⟨q, 3, none⟩) (.inl (OneB.self q)) (.int .i64 1)
  have C4 := C3.trans hc3 (fun i hi => by cases hi; exact .inr (Nat.le_refl _))
  have htb : Tabs w3 x (.slice a1 n1 s1) (.slice a2 n2 s2) := by
    have := HT.out
    rw [HYX.out] at this
    exact this.mono ((HQ.out.mono (T := NoB) (fun i h => .inl h)).trans C4 (fun i hi => by cases hi; exact .inr hq2))
  exact ⟨.inr ⟨x, _, _, _, _, _, _, HN.out, htb, by rw [HB.out]; exact hwk, by rw [HB.out]; rfl⟩, C4⟩

set_option maxRecDepth 100000 in
set_option maxHeartbeats 8000000 in
theorem wat_next2 (w0 : World) (q : Nat) (v : Value) (l : List Ent) (txn : Int) (stop : Option Addr) (p : Int) (w : World) (h : WkAt w q v txn stop 0) (hv : Ents w0 v l) (hq : Chg NoB w0 w) (hq2 : w0.heap.size ≤ q) (hr : risesB l = true) (hl : l.length ≤ 1000000) (x : Rec) (hn : entAt l p = some x) (k1 : (x.kind == 1) = false) (k2 : (x.kind == 2) = true) (t1 : (x.txn != txn) = false) (p1 : x.prev < p) (n1 : p ≤ x.next) :
    Calls Try.prog 76 #[.pointer (some ⟨q, 0, none⟩), .int .i64 p] w fun e w' => WAns l q v txn stop p w' e ∧ Chg (OneB q) w w' := by
  have hbad : recBad txn p x = true := by first | exact recBad_iff.2 (by simp at *; omega) | (rw [Bool.eq_false_iff]; intro hb; have := recBad_iff.1 hb; simp at *; omega)
  have HB := hid hbad
  obtain ⟨c0, c1, c2, c3, c4⟩ := h.cells
  have HW := hid h
  have hqs := lt_of_block h
  have hne : w.heap.size ≠ q := by omega
  have c43 := c4 3
  have hv1 := hid (hv.mono hq)
  have HV := hid hv
  have hfv : ∃ a c, v = .slice a l.length c ∧ l.length ≤ c ∧ (∀ i x, l[i]? = some x → ∃ cs b off, EntAt w0 x cs ∧ cs.length = 12 ∧ a = some ⟨b, off, none⟩ ∧ ∀ j u, cs[j]? = some u → w0.cell? ⟨b, off + i * 12 + j, none⟩ = some u) := by obtain ⟨a, c, rfl, h5, _, h4⟩ := hv; exact ⟨_, _, rfl, h5, h4⟩
  obtain ⟨a, c, rfl, hlc, he⟩ := hfv
  have HE := hid he
  have HQ := hid hq
  have HN := hid hn
  clear c4 h hn hv hbad he hq
  go_enter Try.func76, Try.ntmps76
  go_wp2_with (first
    | (go_at_call 82
       refine (bin_calls _ l p _ (hv1.out.mono ((Chg.refl NoB w).alloc _)) hr hl).mono ?_
       rintro e w' ⟨hb | hb, hc'⟩
       case inl => obtain ⟨h1, _⟩ := hb; rw [HN.out] at h1; cases h1
       obtain ⟨i, hi, h1, h2, rfl⟩ := hb
       have C1 := hid (((Chg.refl NoB w).alloc _).trans' hc')
       have d0 := C1.out.cell c0 (fun e => e)
       have HG := hid (hc'.heap (blk_new _ _) (fun e => e))
       obtain ⟨y, b, off, v1, v2, hx, rfl, ht, _, g0, g1, g2, g3, g4, g5, g6, g7, g8, g9, g10, g11⟩ := Ents.cells HE.out (HQ.out.trans' C1.out) i hi
       obtain ⟨⟨a1, n1, s1, rfl⟩, ⟨a2, n2, s2, rfl⟩⟩ := ht.form
       have HT := hid ht
       have hyx : y.r = x := by rw [← hx.out]; rw [HN.out] at h2; exact (Option.some.inj h2).symm
       rw [hyx] at g1 g2 g3 g4 g5 g6 g7 g8 g9
       have HYX := hid hyx
       clear hc' h1 h2 g0 ht hyx)
    | ((fail_if_success (fail_if_success (with_reducible change wpList _ _ _ (Oper.mk _ (.store 78 _ _) _ _ _ _ :: _) _ _))); refine step_storeRow rfl rfl w.heap.size (cells := #[.int .i64 x.kind, .int .i64 x.txn, .int .i64 x.page, .int .i64 x.off, .int .i64 x.prev, .int .i64 x.next, .int .i64 x.beg, .string x.before, .string x.after, .slice a1 n1 s1, .slice a2 n2 s2]) rfl rfl HG.out (by kernel_rfl) rfl (by simp [Value.oneCell']) ?_
       intro w2 hb2 hc2 hs2
       obtain ⟨b0, b1, b2, b3, b4, b5, b6, b7, b8, b9, b10⟩ := Rec.blk hb2
       have d1 := hc2.cell (C1.out.cell c1 (fun e => e)) (fun e => hne e.symm)
       have d43 := (hc2.frozen (p := ⟨q, 3, none⟩) (Nat.lt_of_lt_of_le hqs C1.out.size) (fun e => hne e.symm)).trans ((C1.out.frozen (p := ⟨q, 3, none⟩) hqs (fun e => e)).trans c43)
       have d3 := hc2.cell (C1.out.cell c3 (fun e => e)) (fun e => hne e.symm)
       have C2 := hid (C1.out.trans hc2 (fun i hi => by cases hi; exact .inr (Nat.le_refl _)))
       have HB2 := hid hb2
       clear hb2 hc2 hs2 g1 g2 g3 g4 g5 g6 g7 g8 g9 g10 g11 d0))
  go_quiet (fail)
  go_wp2_with (first
    | ((fail_if_success (fail_if_success (with_reducible change wpList _ _ _ (Oper.mk _ (.load 78 _) _ _ _ _ :: _) _ _))); refine step_loadRow rfl rfl w.heap.size rfl (blk_setCell_other HB2.out hne _) Try.underlying78 (by kernel_rfl) ?_)
    | ((fail_if_success (fail_if_success (with_reducible change wpList _ _ _ (Oper.mk _ (.store 78 _ _) _ _ _ _ :: _) _ _))); refine step_storeRow rfl rfl w.heap.size rfl rfl (blk_setCell_other HB2.out hne _) (by kernel_rfl) rfl (by simp [Value.oneCell']) ?_; intro w3 hb3 hc3 hs3))
  refine bodyPost_ret (res_row2 Try.underlying78 rfl _ _ w.heap.size rfl hb3 (by kernel_rfl)) rfl ?_
  have hwk := (((HW.out.keep C2.out (fun e => e)).drewN nq).setErr 1).keep hc3 (fun e => hne e.symm)
  have C3 := ((C2.out.mono (T := OneB q) (fun i h => h.elim)).drewN nq).setCell (p := ⟨q, 3, none⟩) (.inl (OneB.self q)) (.int .i64 1)
  have C4 := C3.trans hc3 (fun i hi => by cases hi; exact .inr (Nat.le_refl _))
  have htb : Tabs w3 x (.slice a1 n1 s1) (.slice a2 n2 s2) := by
    have := HT.out
    rw [HYX.out] at this
    exact this.mono ((HQ.out.mono (T := NoB) (fun i h => .inl h)).trans C4 (fun i hi => by cases hi; exact .inr hq2))
  exact ⟨.inr ⟨x, _, _, _, _, _, _, HN.out, htb, by rw [HB.out]; exact hwk, by rw [HB.out]; rfl⟩, C4⟩

set_option maxRecDepth 100000 in
set_option maxHeartbeats 8000000 in
theorem wat_good2 (w0 : World) (q : Nat) (v : Value) (l : List Ent) (txn : Int) (stop : Option Addr) (p : Int) (w : World) (h : WkAt w q v txn stop 0) (hv : Ents w0 v l) (hq : Chg NoB w0 w) (hq2 : w0.heap.size ≤ q) (hr : risesB l = true) (hl : l.length ≤ 1000000) (x : Rec) (hn : entAt l p = some x) (k1 : (x.kind == 1) = false) (k2 : (x.kind == 2) = true) (t1 : (x.txn != txn) = false) (p1 : x.prev < p) (n1 : x.next < p) :
    Calls Try.prog 76 #[.pointer (some ⟨q, 0, none⟩), .int .i64 p] w fun e w' => WAns l q v txn stop p w' e ∧ Chg (OneB q) w w' := by
  have hbad : recBad txn p x = false := by first | exact recBad_iff.2 (by simp at *; omega) | (rw [Bool.eq_false_iff]; intro hb; have := recBad_iff.1 hb; simp at *; omega)
  have HB := hid hbad
  obtain ⟨c0, c1, c2, c3, c4⟩ := h.cells
  have HW := hid h
  have hqs := lt_of_block h
  have hne : w.heap.size ≠ q := by omega
  have c43 := c4 3
  have hv1 := hid (hv.mono hq)
  have HV := hid hv
  have hfv : ∃ a c, v = .slice a l.length c ∧ l.length ≤ c ∧ (∀ i x, l[i]? = some x → ∃ cs b off, EntAt w0 x cs ∧ cs.length = 12 ∧ a = some ⟨b, off, none⟩ ∧ ∀ j u, cs[j]? = some u → w0.cell? ⟨b, off + i * 12 + j, none⟩ = some u) := by obtain ⟨a, c, rfl, h5, _, h4⟩ := hv; exact ⟨_, _, rfl, h5, h4⟩
  obtain ⟨a, c, rfl, hlc, he⟩ := hfv
  have HE := hid he
  have HQ := hid hq
  have HN := hid hn
  clear c4 h hn hv hbad he hq
  go_enter Try.func76, Try.ntmps76
  go_wp2_with (first
    | (go_at_call 82
       refine (bin_calls _ l p _ (hv1.out.mono ((Chg.refl NoB w).alloc _)) hr hl).mono ?_
       rintro e w' ⟨hb | hb, hc'⟩
       case inl => obtain ⟨h1, _⟩ := hb; rw [HN.out] at h1; cases h1
       obtain ⟨i, hi, h1, h2, rfl⟩ := hb
       have C1 := hid (((Chg.refl NoB w).alloc _).trans' hc')
       have d0 := C1.out.cell c0 (fun e => e)
       have HG := hid (hc'.heap (blk_new _ _) (fun e => e))
       obtain ⟨y, b, off, v1, v2, hx, rfl, ht, _, g0, g1, g2, g3, g4, g5, g6, g7, g8, g9, g10, g11⟩ := Ents.cells HE.out (HQ.out.trans' C1.out) i hi
       obtain ⟨⟨a1, n1, s1, rfl⟩, ⟨a2, n2, s2, rfl⟩⟩ := ht.form
       have HT := hid ht
       have hyx : y.r = x := by rw [← hx.out]; rw [HN.out] at h2; exact (Option.some.inj h2).symm
       rw [hyx] at g1 g2 g3 g4 g5 g6 g7 g8 g9
       have HYX := hid hyx
       clear hc' h1 h2 g0 ht hyx)
    | ((fail_if_success (fail_if_success (with_reducible change wpList _ _ _ (Oper.mk _ (.store 78 _ _) _ _ _ _ :: _) _ _))); refine step_storeRow rfl rfl w.heap.size (cells := #[.int .i64 x.kind, .int .i64 x.txn, .int .i64 x.page, .int .i64 x.off, .int .i64 x.prev, .int .i64 x.next, .int .i64 x.beg, .string x.before, .string x.after, .slice a1 n1 s1, .slice a2 n2 s2]) rfl rfl HG.out (by kernel_rfl) rfl (by simp [Value.oneCell']) ?_
       intro w2 hb2 hc2 hs2
       obtain ⟨b0, b1, b2, b3, b4, b5, b6, b7, b8, b9, b10⟩ := Rec.blk hb2
       have d1 := hc2.cell (C1.out.cell c1 (fun e => e)) (fun e => hne e.symm)
       have d43 := (hc2.frozen (p := ⟨q, 3, none⟩) (Nat.lt_of_lt_of_le hqs C1.out.size) (fun e => hne e.symm)).trans ((C1.out.frozen (p := ⟨q, 3, none⟩) hqs (fun e => e)).trans c43)
       have d3 := hc2.cell (C1.out.cell c3 (fun e => e)) (fun e => hne e.symm)
       have C2 := hid (C1.out.trans hc2 (fun i hi => by cases hi; exact .inr (Nat.le_refl _)))
       have HB2 := hid hb2
       clear hb2 hc2 hs2 g1 g2 g3 g4 g5 g6 g7 g8 g9 g10 g11 d0))
  go_quiet (fail)
  go_wp2_with (first
    | ((fail_if_success (fail_if_success (with_reducible change wpList _ _ _ (Oper.mk _ (.load 78 _) _ _ _ _ :: _) _ _))); refine step_loadRow rfl rfl w.heap.size rfl HB2.out Try.underlying78 (by kernel_rfl) ?_)
    | ((fail_if_success (fail_if_success (with_reducible change wpList _ _ _ (Oper.mk _ (.store 78 _ _) _ _ _ _ :: _) _ _))); refine step_storeRow rfl rfl w.heap.size rfl rfl HB2.out (by kernel_rfl) rfl (by simp [Value.oneCell']) ?_; intro w3 hb3 hc3 hs3))
  refine bodyPost_ret (res_row2 Try.underlying78 rfl _ _ w.heap.size rfl hb3 (by kernel_rfl)) rfl ?_
  have hwk := ((HW.out.keep C2.out (fun e => e)).drewN nq).keep hc3 (fun e => hne e.symm)
  have C3 := (C2.out.mono (T := OneB q) (fun i h => h.elim)).drewN nq
  have C4 := C3.trans hc3 (fun i hi => by cases hi; exact .inr (Nat.le_refl _))
  have htb : Tabs w3 x (.slice a1 n1 s1) (.slice a2 n2 s2) := by
    have := HT.out
    rw [HYX.out] at this
    exact this.mono ((HQ.out.mono (T := NoB) (fun i h => .inl h)).trans C4 (fun i hi => by cases hi; exact .inr hq2))
  exact ⟨.inr ⟨x, _, _, _, _, _, _, HN.out, htb, by rw [HB.out]; exact hwk, by rw [HB.out]; rfl⟩, C4⟩

theorem wat_calls (w0 : World) (q : Nat) (v : Value) (l : List Ent) (txn : Int) (stop : Option Addr) (p : Int) (w : World) (h : WkAt w q v txn stop 0) (hv : Ents w0 v l) (hq : Chg NoB w0 w) (hq2 : w0.heap.size ≤ q) (hr : risesB l = true) (hl : l.length ≤ 1000000) :
    Calls Try.prog 76 #[.pointer (some ⟨q, 0, none⟩), .int .i64 p] w fun e w' => WAns l q v txn stop p w' e ∧ Chg (OneB q) w w' := by
  cases hn : entAt l p with
  | none => exact wat_none w0 q v l txn stop p w h hv hq hq2 hr hl hn
  | some x =>
    cases k1 : (x.kind == 1)
    · cases k2 : (x.kind == 2)
      · exact wat_kind w0 q v l txn stop p w h hv hq hq2 hr hl x hn k1 k2
      · cases t1 : (x.txn != txn)
        · by_cases p1 : p ≤ x.prev
          · exact wat_prev2 w0 q v l txn stop p w h hv hq hq2 hr hl x hn k1 k2 t1 p1
          · by_cases n1 : p ≤ x.next
            · exact wat_next2 w0 q v l txn stop p w h hv hq hq2 hr hl x hn k1 k2 t1 (by omega) n1
            · exact wat_good2 w0 q v l txn stop p w h hv hq hq2 hr hl x hn k1 k2 t1 (by omega) (by omega)
        · exact wat_txn2 w0 q v l txn stop p w h hv hq hq2 hr hl x hn k1 k2 t1
    · have k2 : (x.kind == 2) = false := by simp at k1 ⊢; omega
      cases t1 : (x.txn != txn)
      · by_cases p1 : p ≤ x.prev
        · exact wat_prev1 w0 q v l txn stop p w h hv hq hq2 hr hl x hn k1 k2 t1 p1
        · exact wat_good1 w0 q v l txn stop p w h hv hq hq2 hr hl x hn k1 k2 t1 (by omega)
      · exact wat_txn1 w0 q v l txn stop p w h hv hq hq2 hr hl x hn k1 k2 t1
end Go.Proofs.Ytghklbflbodajaa
