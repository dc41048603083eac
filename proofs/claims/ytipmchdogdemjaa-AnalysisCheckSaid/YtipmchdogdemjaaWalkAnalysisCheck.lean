import Derived.Test.YtipmchdogdemjaaChkLaw
namespace Go.Proofs.Ytipmchdogdemjaa
open Go.RowKit Go.ChangeMaps Go.MapKept
set_option linter.unusedVariables false

/-- The own entries, as they are gathered. -/
structure OwW (w wr : World) (base : Nat) (ov : Value) (O : List Ent) (k : Nat) : Prop where
  own : OwnE (NewB w) wr base ov O
  chg : Chg NoB w wr
  inc : ∀ x ∈ O, inC x.r ∧ x.r.txns.length ≤ 50 ∧ x.r.pages.length ≤ 50
  len : O.length ≤ k
  bd : w.heap.size ≤ base ∧ base ≤ wr.heap.size

/-- The second loop's world. -/
structure LpW (w wr : World) (g base0 : Nat) (oO : Value) (O : List Ent) (ov : Value) (L : List Rec) : Prop where
  all : AllAt wr g (g + 1) ov L
  own : OwnE (NewB w) wr base0 oO O
  chg : Chg NoB w wr
  bd : w.heap.size ≤ g ∧ ∀ k, OwnB oO k → k < g
theorem LpW.keep0 {w wr wr' : World} {g base0 : Nat} {oO : Value} {O : List Ent} {ov : Value} {L : List Rec} (h : LpW w wr g base0 oO O ov L) (hc : Chg NoB wr wr') : LpW w wr' g base0 oO O ov L :=
  ⟨h.all.keep0 hc, h.own.keep0 hc, h.chg.trans' hc, h.bd⟩
theorem LpW.put {w wr wr' : World} {g base0 : Nat} {oO : Value} {O : List Ent} {ov ov' : Value} {L L' : List Rec} (h : LpW w wr g base0 oO O ov L) (ha : AllAt wr' g (g + 1) ov' L') (hc : Chg (AllB g ov) wr wr') : LpW w wr' g base0 oO O ov' L' := by
  have hge : ∀ k, AllB g ov k → g ≤ k := by
    rintro k (hk | rfl)
    · have := (h.all.own.ge hk).1; omega
    · exact Nat.le_refl _
  have := h.bd.1
  exact ⟨ha, h.own.keep hc (fun k e => .inl (show w.heap.size ≤ k from by have := hge k e; omega)) (fun k hk e => by have := hge k e; have := h.bd.2 k hk; omega), h.chg.trans hc (fun i hi => .inr (by have := hge i hi; omega)), h.bd⟩

/-- Element k of one's own entries. -/
theorem OwnE.cells {F : Nat → Prop} {w : World} {base : Nat} {v : Value} {L : List Ent} (h : OwnE F w base v L) (k : Nat) (hk : k < L.length) :
    ∃ x b off c a1 l1 n1 a2 l2 n2, Hid (L[k] = x) ∧ v = .slice (some ⟨b, off, none⟩) L.length c ∧ Hid (EntK (fun k => OwnB v k ∨ F k) w (x, .slice a1 l1 n1, .slice a2 l2 n2)) ∧
      w.cell? ⟨b, off + k * 12, none⟩ = some (.int .i64 x.at_) ∧
      w.cell? ⟨b, off + k * 12 + 1, none⟩ = some (.int .i64 x.r.kind) ∧
      w.cell? ⟨b, off + k * 12 + 2, none⟩ = some (.int .i64 x.r.txn) ∧
      w.cell? ⟨b, off + k * 12 + 3, none⟩ = some (.int .i64 x.r.page) ∧
      w.cell? ⟨b, off + k * 12 + 4, none⟩ = some (.int .i64 x.r.off) ∧
      w.cell? ⟨b, off + k * 12 + 5, none⟩ = some (.int .i64 x.r.prev) ∧
      w.cell? ⟨b, off + k * 12 + 6, none⟩ = some (.int .i64 x.r.next) ∧
      w.cell? ⟨b, off + k * 12 + 7, none⟩ = some (.int .i64 x.r.beg) ∧
      w.cell? ⟨b, off + k * 12 + 8, none⟩ = some (.string x.r.before) ∧
      w.cell? ⟨b, off + k * 12 + 9, none⟩ = some (.string x.r.after) ∧
      w.cell? ⟨b, off + k * 12 + 10, none⟩ = some (.slice a1 l1 n1) ∧
      w.cell? ⟨b, off + k * 12 + 11, none⟩ = some (.slice a2 l2 n2) := by
  obtain ⟨xs, rfl, h2, h3⟩ := h
  obtain ⟨a, c, e1, e2, e3, e4⟩ := Rd.of_own (fun x => by simp [encE, Rec.cs]) h3
  have hkx : k < xs.length := by simpa using hk
  obtain ⟨b, off, e5, e6⟩ := e4 k _ (List.getElem?_eq_getElem hkx)
  have hK := h2 _ (List.getElem_mem hkx)
  obtain ⟨⟨x, v1, v2⟩, hx⟩ : ∃ p, xs[k] = p := ⟨_, rfl⟩
  rw [hx] at e6 hK
  obtain ⟨a1, n1, f1, _⟩ := id hK.tabs.1
  obtain ⟨a2, n2, f2, _⟩ := id hK.tabs.2
  dsimp only at f1 f2
  subst f1 f2
  subst e5
  refine ⟨x, b, off, c, a1, _, n1, a2, _, n2, hid (by rw [List.getElem_map, hx]), by rw [e1, List.length_map], hid hK, e6 0 _ rfl, e6 1 _ rfl, e6 2 _ rfl, e6 3 _ rfl, e6 4 _ rfl, e6 5 _ rfl, e6 6 _ rfl, e6 7 _ rfl, e6 8 _ rfl, e6 9 _ rfl, e6 10 _ rfl, e6 11 _ rfl⟩

theorem uMod (x m : Int) (h0 : 0 < m) (hn : m ≤ 1001) : ∃ M : Nat, wrap64 ((IntKind.u64.wrap x).tmod m) = (M : Int) ∧ (M : Int) < m := by
  have h := u64_nonneg x
  rw [Int.tmod_eq_emod_of_nonneg h]
  have h1 := Int.emod_nonneg (IntKind.u64.wrap x) (show m ≠ 0 by omega)
  have h2 := Int.emod_lt_of_pos (IntKind.u64.wrap x) h0
  rw [w64_small _ (by omega) (by omega)]
  exact ⟨((IntKind.u64.wrap x) % m).toNat, by omega, by omega⟩

set_option maxRecDepth 100000 in
set_option maxHeartbeats 8000000 in
theorem analysisCheck_walk (w : World) (v : Value) (l : List Ent) (hv : Ents w v l) (b0 : Int) (_h1 : (Lit.int .i64 b0).wf = true) (e0 : Int) (_h2 : (Lit.int .i64 e0).wf = true) :
    Calls Try.prog 3 #[v, .int .i64 b0, .int .i64 e0] w fun e w' => e = .returned (.bool true) ∧ Chg NoB w w' := by
  obtain ⟨f, hf⟩ := named (entsFew l)
  have HV := hid hv
  have hform : ∃ a c, v = .slice a l.length c ∧ l.length ≤ c ∧ l.length ≤ maxLen := by obtain ⟨a, c, rfl, h1, h2, _⟩ := hv; exact ⟨_, _, rfl, h1, h2⟩
  obtain ⟨a, c, rfl, q1, q2⟩ := hform
  unfold maxLen at q2
  clear hv _h1 _h2
  cases f
  · go_enter Try.func3, Try.ntmps3
    go_wp2_with (first
      | (go_at_call 5; refine (awake w).mono ?_; rintro e w1 ⟨rfl, c1⟩)
      | (go_at_call 6; refine (entsFew_calls _ l _ (HV.out.mono c1) _ hf).mono ?_; rintro e w2 ⟨rfl, c2⟩))
    refine (awake w2).mono ?_
    rintro e w3 ⟨rfl, c3⟩
    go_wp2
    go_ret
    exact ⟨rfl, c1.trans' (c2.trans' c3)⟩
  by_cases h60 : 60 < l.length
  · have h60i : (60 : Int) < (l.length : Int) := by omega
    go_enter Try.func3, Try.ntmps3
    go_wp2_with (first
      | (go_at_call 5; refine (awake w).mono ?_; rintro e w1 ⟨rfl, c1⟩)
      | (go_at_call 6; refine (entsFew_calls _ l _ (HV.out.mono c1) _ hf).mono ?_; rintro e w2 ⟨rfl, c2⟩))
    refine (awake w2).mono ?_
    rintro e w3 ⟨rfl, c3⟩
    go_wp2
    go_ret
    exact ⟨rfl, c1.trans' (c2.trans' c3)⟩
  have h60i : ¬ (60 : Int) < (l.length : Int) := by omega
  go_enter Try.func3, Try.ntmps3
  go_wp2_with (first
    | (go_at_call 5; refine (awake w).mono ?_; rintro e w1 ⟨rfl, c1⟩)
    | (go_at_call 6; refine (entsFew_calls _ l _ (HV.out.mono c1) _ hf).mono ?_; rintro e w2 ⟨rfl, c2⟩))
  have hW0 : Hid (OwW w w2 w2.heap.size (.slice none 0 0) [] 0) := hid ⟨OwnE.nil _ _ _, c1.trans' c2, by simp, by simp, (c1.trans' c2).size, Nat.le_refl _⟩
  clear c1 c2
  go_loopw [7, 38] (fun o7 i wr => ∃ (k : Nat) (O : List Ent) (ao : Option Addr) (co : Nat), k ≤ l.length ∧ i = .int .i64 k ∧ o7 = .slice ao O.length co ∧ Hid (OwW w wr w2.heap.size (.slice ao O.length co) O k)) (fun _ i _ => l.length - (intOf i).toNat)
  case atStart => exact ⟨0, [], none, 0, by omega, rfl, rfl, hW0⟩
  case round =>
    obtain ⟨k, O, ao, co, hk, rfl, rfl, hI⟩ := hrel
    clear hW0
    by_cases hlt : k < l.length
    · obtain ⟨x, b, off, v1, v2, hx, rfl, ht, hok, g0, g1, g2, g3, g4, g5, g6, g7, g8, g9, g10, g11⟩ := Ents.cells (by obtain ⟨_, _, e, _, _, h⟩ := HV.out; cases e; exact h) hI.out.chg k hlt
      have HTx := hid ht
      obtain ⟨⟨a1, n1, rfl, _, _, _⟩, ⟨a2, n2, rfl, _, _, _⟩⟩ := ht
      have hl := hI.out.len
      have hbb := hI.out.bd
      by_cases hs1 : x.r.kind < 1
      · have hs1' : ¬ 1 ≤ x.r.kind := by omega
        go_wp2_with fail
        go_roundw
        case rel => exact ⟨k + 1, O, ao, co, by omega, by go_num, rfl, ⟨hI.out.own.keep0 ((Chg.refl NoB wr).alloc _), hI.out.chg.alloc _, hI.out.inc, by omega, by simp; omega⟩⟩
        case measure => simp [intOf]; omega
      by_cases hs2 : 4 < x.r.kind
      · have hs2' : ¬ x.r.kind ≤ 4 := by omega
        have hs1' : 1 ≤ x.r.kind := by omega
        go_wp2_with fail
        go_roundw
        case rel => exact ⟨k + 1, O, ao, co, by omega, by go_num, rfl, ⟨hI.out.own.keep0 ((Chg.refl NoB wr).alloc _), hI.out.chg.alloc _, hI.out.inc, by omega, by simp; omega⟩⟩
        case measure => simp [intOf]; omega
      have hs1' : 1 ≤ x.r.kind := by omega
      have hs2' : x.r.kind ≤ 4 := by omega
      have hin := hid (show inC x.r ∧ x.r.txns.length ≤ 50 ∧ x.r.pages.length ≤ 50 from ⟨⟨hs1', hs2'⟩, few_tabs hf.out hlt hx.out⟩)
      obtain ⟨X, hX⟩ := named (Obj.cells #[Value.int .i64 x.at_, Value.int .i64 x.r.kind, Value.int .i64 x.r.txn, Value.int .i64 x.r.page, Value.int .i64 x.r.off, Value.int .i64 x.r.prev, Value.int .i64 x.r.next, Value.int .i64 x.r.beg, Value.string x.r.before, Value.string x.r.after, Value.slice a1 x.r.txns.length n1, Value.slice a2 x.r.pages.length n2] 30)
      obtain ⟨Y, hY⟩ := named (Obj.cells #[Value.int .i64 (128 + 10 * (k : Int)), Value.int .i64 x.r.kind, Value.int .i64 x.r.txn, Value.int .i64 x.r.page, Value.int .i64 x.r.off, Value.int .i64 x.r.prev, Value.int .i64 x.r.next, Value.int .i64 x.r.beg, Value.string x.r.before, Value.string x.r.after, Value.slice a1 x.r.txns.length n1, Value.slice a2 x.r.pages.length n2] 30)
      have cXX : Hid (Chg NoB wr ((wr.alloc X).alloc Y)) := hid (((Chg.refl NoB wr).alloc X).alloc Y)
      have hOX := hid (hI.out.own.keep0 cXX.out)
      have hEK : Hid (EntK (fun k => OwnB (.slice ao O.length co) k ∨ NewB w k) ((wr.alloc X).alloc Y) (⟨128 + 10 * (k : Int), x.r⟩, .slice a1 x.r.txns.length n1, .slice a2 x.r.pages.length n2)) := hid (entK_of (x := ⟨128 + 10 * (k : Int), x.r⟩) HTx.out ⟨hok.out.1, by unfold fits; dsimp only; omega⟩ (hI.out.chg.trans' cXX.out) (fun k hk => by
        rcases hk with hk | hk
        · have := hI.out.own.ge hk; omega
        · exact hk))
      have hbX : ((wr.alloc X).alloc Y).heap[wr.heap.size + 1]? = some Y := by have := blk_new (wr.alloc X) Y; rwa [World.size_alloc] at this
      have HBX := hid hbX
      rw [hX.out, hY.out] at cXX hOX hEK HBX
      clear hbX
      go_wp2_with (at_builtin; refine step_appE slEnt rfl _ _ rfl hOX.out rfl (wr.heap.size + 1) ⟨128 + 10 * (k : Int), x.r⟩ (.slice a1 x.r.txns.length n1) (.slice a2 x.r.pages.length n2) rfl HBX.out rfl ⟨rfl, rfl⟩ hEK.out ?_ ?_ ?_)
      case _ => omega
      case _ => first | omega | (simp; omega)
      intro v5 w5 ho5 hc5 hob5
      obtain ⟨a5, n5, rfl⟩ := ho5.form
      have hend : Hid (OwW w w5 w2.heap.size (.slice a5 (O ++ [(⟨128 + 10 * (k : Int), x.r⟩ : Ent)]).length n5) (O ++ [(⟨128 + 10 * (k : Int), x.r⟩ : Ent)]) (k + 1)) := hid ⟨ho5, (hI.out.chg.trans' cXX.out).trans hc5 (fun i hi => .inr (by have := hI.out.own.ge hi; omega)), by
        intro y hy
        rcases List.mem_append.1 hy with h | h
        · exact hI.out.inc y h
        · obtain rfl := List.mem_singleton.1 h; exact hin.out, by simp; omega, by have := hc5.size; have := cXX.out.size; omega⟩
      clear ho5 hc5 hob5
      go_wp2_with fail
      go_roundw
      case rel => exact ⟨k + 1, O ++ [(⟨128 + 10 * (k : Int), x.r⟩ : Ent)], a5, n5, by omega, by go_num, by simp, hend⟩
      case measure => simp [intOf]; omega
    · obtain rfl : l.length = k := by omega
      obtain ⟨wo, rfl⟩ : ∃ wo : World, wo = wr := ⟨_, rfl⟩
      obtain ⟨n, hn⟩ := named O.length
      have hn60 : n ≤ 60 := by rw [hn.out]; have := hI.out.len; omega
      rw [← hn.out] at hI ⊢
      obtain ⟨M, hM, hMn⟩ := uMod b0 ((n : Int) + 1) (by omega) (by omega)
      have hMn' : M ≤ n := by omega
      have hm1 : IntKind.u64.wrap ((n : Int) + 1) = (n : Int) + 1 := u64_small _ (by omega) (by omega)
      have hm2 : ¬ ((n : Int) + 1) = 0 := by omega
      go_upto_region 11 with fail
      simp only [hM]
      clear hM hm1 hm2
      obtain ⟨E', hE, hEn⟩ := uMod e0 ((n : Int) - M + 1) (by omega) (by omega)
      have hm0 : wrap64 ((n : Int) - M) = (n : Int) - M := w64_small _ (by omega) (by omega)
      have hm3 : wrap64 ((n : Int) - M + 1) = (n : Int) - M + 1 := w64_small _ (by omega) (by omega)
      have hm1 : IntKind.u64.wrap ((n : Int) - M + 1) = (n : Int) - M + 1 := u64_small _ (by omega) (by omega)
      have hm2 : ¬ ((n : Int) - M + 1) = 0 := by omega
      go_upto_region 12 with fail
      simp only [hE]
      clear hE hm0 hm1 hm2 hm3
      obtain ⟨E, hEE⟩ : ∃ E : Nat, (M : Int) + E' = E := ⟨M + E', by simp⟩
      simp only [hEE]
      have hME : M ≤ E := by omega
      have hEn' : E ≤ n := by omega
      clear hEE hEn hMn
      obtain ⟨g, hg⟩ := named wo.heap.size
      have hob : ∀ k, OwnB (.slice ao n co) k → k < g := fun k hk => by rw [hg.out]; exact (hI.out.own.ge hk).2
      have hL0 : Hid (LpW w (wo.alloc (.cells #[.slice none 0 0] 22)) g w2.heap.size (.slice ao n co) O (.slice none 0 0) []) := hid (by
        have hc := (Chg.refl NoB wo).alloc (.cells #[.slice none 0 0] 22)
        refine ⟨⟨by rw [hg.out]; exact blk_new _ _, OwnE.nil _ _ _, by simp [hg.out]⟩, hI.out.own.keep0 hc, hI.out.chg.trans' hc, by rw [hg.out]; exact hI.out.chg.size, hob⟩)
      have hinc := hid hI.out.inc
      clear hI hob
      go_wp2_with fail
      rw [← hg.out]
      go_loopw [12, 13] (fun c12 i13 wr => ∃ (k : Nat) (L : List Rec) (c : Int) (ov : Value), k ≤ n + 1 ∧ i13 = .int .i64 k ∧ c12 = .int .i64 c ∧ Hid (LpW w wr g w2.heap.size (.slice ao n co) O ov L ∧ (k ≤ n → PhAt M E k 0 L c) ∧ (k = n + 1 → PhAt M E n 2 L c))) (fun _ i _ => n + 1 - (intOf i).toNat)
      case atStart => exact ⟨0, [], 0, _, by omega, rfl, rfl, ⟨hL0.out, fun _ => PhAt.start M E, fun h => by omega⟩⟩
      case round =>
        obtain ⟨k, L, ck, ov, hk, rfl, rfl, hP⟩ := hrel
        clear hL0
        by_cases hkn : k ≤ n
        · have hLw := hid hP.out.1
          have hPh := hid (hP.out.2.1 hkn)
          clear hP
          go_upto_if 92 with fail
          go_cut [12] (fun s12 wx => ∃ (L : List Rec) (c : Int) (ov : Value), s12 = .int .i64 c ∧ Hid (LpW w wx g w2.heap.size (.slice ao n co) O ov L ∧ PhAt M E k 1 L c))
          case first =>
            by_cases hkM : k = M
            · subst hkM
              have hlen := hPh.out.le
              have hEK : EntK (fun k => OwnB ov k ∨ OneB g k) wr (⟨pos L.length, rBegin⟩, .slice none 0 0, .slice none 0 0) := by
                refine ⟨tabs_nil rfl rfl, ⟨?_, ?_, ?_, ?_, ?_, ?_, ?_, by simp [rBegin, maxLen, ByteArray.size], by simp [rBegin, maxLen, ByteArray.size], by simp [rBegin], by simp [rBegin]⟩, ?_, fun k _ => ⟨SlB.nil, SlB.nil⟩⟩ <;> (unfold fits; simp only [rBegin, pos]; omega)
              have HEK := hid hEK
              clear hEK
              go_wp2_with (go_at_call 7; refine (put_calls wr g (g + 1) ov L hLw.out.all rBegin none none 0 0 0 0 HEK.out (by omega)).mono ?_; rintro e w4 ⟨rfl, ov4, ha4, hc4, _⟩)
              go_meet
              exact ⟨L ++ [rBegin], pos L.length, ov4, rfl, ⟨hLw.out.put ha4 hc4, hPh.out.atB rfl hME⟩⟩
            · have hb : ((k : Int) == (M : Int)) = false := beq_false_of_ne (by omega)
              go_wp2_with fail
              go_meet
              exact ⟨L, ck, ov, rfl, ⟨hLw.out, hPh.out.noB hkM⟩⟩
          case rest =>
            obtain ⟨L1, c1, ov1, rfl, h1⟩ := hcut
            clear hLw hPh
            go_upto_if 98 with fail
            go_cut [] (fun wx => ∃ (L : List Rec) (ov : Value), Hid (LpW w wx g w2.heap.size (.slice ao n co) O ov L ∧ PhAt M E k 2 L c1))
            case first =>
              obtain ⟨ao1, co1, rfl⟩ := h1.out.1.all.form
              have x0 : wc.cell? ⟨g, 0, none⟩ = some (.slice ao1 L1.length co1) := by rw [cell_blk h1.out.1.all.blk]; rfl
              by_cases hkE : k = E
              · subst hkE
                have hp1 := hid (h1.out.2.ph1 rfl hME)
                have hwt : entsW (posn L1) ≤ 1000000 := by have := hp1.out.2; have := h1.out.2.le; omega
                obtain ⟨t, ht⟩ := named (aRows (aFold 0 (posn L1)))
                obtain ⟨p, hp⟩ := named (aPages (aFold 0 (posn L1)))
                have HT : Hid ((t, p, 0) = tabsOf (posn L1) 0) := hid (by rw [tabs0, ht.out, hp.out])
                have hAF : Hid (AFit (aFold 0 (posn L1))) := hid (AFit.foldl (posn L1) (fun x hx => (h1.out.1.all.own.oks x hx).1) _ ⟨by simp, by simp⟩)
                have hf1 : Hid (∀ x ∈ t, fits x.1) := hid (by rw [ht.out]; exact rows_fit hp1.out.1.2.toBd hAF.out)
                have hf2 : Hid (∀ x ∈ p, fits x.1) := hid (by rw [hp.out]; exact pages_fit hAF.out)
                have hfc : Hid (fits c1 ∧ L1.length ≤ 1000) := hid (by
                  have h3 := hp1.out.1.1.le
                  have h4 := hp1.out.1.1.gt
                  have h5 := h1.out.2.le
                  unfold pos at h3
                  unfold fits
                  omega)
                go_wp2_with (go_at_call 8; refine (tables_calls _ (posn L1) 0 _ h1.out.1.all.own.ents hwt t p 0 HT).mono ?_; rintro e w5 ⟨v1, v2, rfl, g1, g2, g3⟩; obtain ⟨a1, n1, rfl⟩ := ownsForm g1; obtain ⟨a2, n2, rfl⟩ := ownsForm g2; replace g1 := hid g1; replace g2 := hid g2; replace g3 := hid g3)
                have hL5 := hid (h1.out.1.keep0 g3.out)
                have hEK : EntK (fun k => OwnB (.slice ao1 L1.length co1) k ∨ OneB g k) w5 (⟨pos L1.length, rTabs c1 t p⟩, .slice a1 t.length n1, .slice a2 p.length n2) := by
                  refine ⟨⟨Rd.of_own (l := t) (enc := encTx) (size := 3) (fun _ => rfl) g1.out, Rd.of_own (l := p) (enc := encPg) (size := 2) (fun _ => rfl) g2.out⟩, ⟨?_, ?_, ?_, ?_, ?_, ?_, hfc.out.1, by simp [rTabs, maxLen, ByteArray.size], by simp [rTabs, maxLen, ByteArray.size], hf1.out, hf2.out⟩, ?_, ?_⟩
                  · unfold fits; simp only [rTabs]; omega
                  · unfold fits; simp only [rTabs]; omega
                  · unfold fits; simp only [rTabs]; omega
                  · unfold fits; simp only [rTabs]; omega
                  · unfold fits; simp only [rTabs]; omega
                  · unfold fits; simp only [rTabs]; omega
                  · have := hfc.out.2; unfold fits; simp only [pos]; omega
                  · intro q hq
                    have hqlt : q < wc.heap.size := by
                      rcases hq with hq | hq
                      · exact (h1.out.1.all.own.ge hq).2
                      · have h' : q = g := hq; have := h1.out.1.all.lt; omega
                    constructor
                    · rintro ⟨off, n', c', e, _⟩
                      have := (OwnB.ge g1.out q (by cases e; rfl)).1
                      omega
                    · rintro ⟨off, n', c', e, _⟩
                      have := (OwnB.ge g2.out q (by cases e; rfl)).1
                      omega
                have HEK := hid hEK
                have hlen1 : L1.length ≤ 100000 := by have := hfc.out.2; omega
                clear hEK x0
                go_wp2_with (go_at_call 7; refine (put_calls w5 g (g + 1) _ L1 hL5.out.all (rTabs c1 t p) a1 a2 _ _ n1 n2 HEK.out hlen1).mono ?_; rintro e w6 ⟨rfl, ov6, ha6, hc6, _⟩)
                go_meet
                refine ⟨L1 ++ [rTabs c1 t p], ov6, ⟨hL5.out.put ha6 hc6, ?_⟩⟩
                rw [ht.out, hp.out]
                exact h1.out.2.atE rfl hME (by omega)
              · have hb : ((k : Int) == (E : Int)) = false := beq_false_of_ne (by omega)
                go_wp2_with fail
                go_meet
                exact ⟨L1, _, ⟨h1.out.1, h1.out.2.noE hkE⟩⟩
            case rest =>
              obtain ⟨L2, ov2, h2⟩ := hcut
              clear h1
              go_upto_if 116 with fail
              by_cases hkl : k < n
              · have hkO : k < O.length := by rw [← hn.out]; exact hkl
                obtain ⟨x, b, off, cc, a1, l1, n1, a2, l2, n2, hx, ev, hEK, g0, g1, g2, g3, g4, g5, g6, g7, g8, g9, g10, g11⟩ := h2.out.1.own.cells k hkO
                have ea : ao = some ⟨b, off, none⟩ := by injection ev
                subst ea
                have hlen2 := h2.out.2.le
                have hge : w.heap.size ≤ g := h2.out.1.bd.1
                have HEK := hid (show EntK (fun k => OwnB ov2 k ∨ OneB g k) wc (⟨pos L2.length, x.r⟩, .slice a1 l1 n1, .slice a2 l2 n2) from ⟨hEK.out.tabs, hEK.out.ok, by unfold fits; simp only [pos]; omega, fun q hq => hEK.out.out q (.inr (show w.heap.size ≤ q from by
                  rcases hq with hq | hq
                  · have := (h2.out.1.all.own.ge hq).1; omega
                  · have h' : q = g := hq; omega))⟩)
                have hin := hid (by have := hinc.out _ (List.getElem_mem hkO); rw [hx.out] at this; exact this)
                clear ev hEK
                go_wp2_with (go_at_call 7; refine (put_calls wc g (g + 1) ov2 L2 h2.out.1.all x.r a1 a2 l1 l2 n1 n2 HEK.out (by omega)).mono ?_; rintro e w6 ⟨rfl, ov6, ha6, hc6, _⟩)
                go_roundw
                case rel => exact ⟨k + 1, L2 ++ [x.r], c1, ov6, by omega, by go_num, rfl, ⟨h2.out.1.put ha6 hc6, fun _ => h2.out.2.own hin.out.1 hin.out.2, fun e => by omega⟩⟩
                case measure => simp [intOf]; omega
              · obtain rfl : n = k := by omega
                go_wp2_with fail
                go_roundw
                case rel => exact ⟨n + 1, L2, c1, ov2, by omega, by first | rfl | simp | go_num, rfl, ⟨h2.out.1, fun e => by omega, fun _ => h2.out.2⟩⟩
                case measure => first | (simp [intOf]; done) | (simp [intOf]; omega)
        · obtain rfl : k = n + 1 := by omega
          have hp := hid (hP.out.2.2 rfl)
          have hLw := hid hP.out.1
          have hlast := hid (hp.out.last (by omega) hEn')
          obtain ⟨ao1, co1, rfl⟩ := hLw.out.all.form
          have x0 : wr.cell? ⟨g, 0, none⟩ = some (.slice ao1 L.length co1) := by rw [cell_blk hLw.out.all.blk]; rfl
          have hwt : Hid (entsW (posn L) ≤ 1000000) := hid (by have := hlast.out.2; omega)
          obtain ⟨t, ht⟩ := named (aRows (aFold 0 (posn L)))
          obtain ⟨p, hp'⟩ := named (aPages (aFold 0 (posn L)))
          have HT : Hid ((t, p, 0) = tabsOf (posn L) 0) := hid (by rw [tabs0, ht.out, hp'.out])
          have HT2 : Hid ((t, p, 0) = tabsOf (posn L) ck) := hid (by rw [hlast.out.1.out]; exact HT.out)
          have hnn : ¬ ((n + 1 : Nat) : Int) ≤ (n : Int) := by omega
          clear hP
          go_wp2_with fail
          refine (tables_calls _ (posn L) 0 _ hLw.out.all.own.ents hwt.out t p 0 HT).mono ?_
          rintro e w5 ⟨v1, v2, rfl, g1, g2, g3⟩
          obtain ⟨a1, n1, rfl⟩ := ownsForm g1
          obtain ⟨a2, n2, rfl⟩ := ownsForm g2
          have G1 := hid g1
          have G2 := hid g2
          have G3 := hid g3
          have hL5 := hid (hLw.out.keep0 g3)
          have x1 := g3.cell x0 nob
          clear g1 g2 g3 x0
          go_wp2_with fail
          refine (tables_calls _ (posn L) ck _ hL5.out.all.own.ents hwt.out t p 0 HT2).mono ?_
          rintro e w6 ⟨v3, v4, rfl, g4, g5, g6⟩
          obtain ⟨a3, n3, rfl⟩ := ownsForm g4
          obtain ⟨a4, n4, rfl⟩ := ownsForm g5
          have R1 := hid (Rd.of_own (l := t) (enc := encTx) (size := 3) (fun _ => rfl) (ownsRow.chg G1.out g6 (fun _ _ e => e)))
          have R2 := hid (Rd.of_own (l := p) (enc := encPg) (size := 2) (fun _ => rfl) (ownsRow.chg G2.out g6 (fun _ _ e => e)))
          have R3 := hid (Rd.of_own (l := t) (enc := encTx) (size := 3) (fun _ => rfl) g4)
          have R4 := hid (Rd.of_own (l := p) (enc := encPg) (size := 2) (fun _ => rfl) g5)
          have C6 := hid (hL5.out.chg.trans' g6)
          clear g4 g5 g6 x1
          go_wp2_with fail
          refine (sameRows _ _ t t _ R1.out R3.out true (hid (by simp))).mono ?_
          rintro e w7 ⟨rfl, m7, h7⟩
          have C7 : Hid (Chg NoB w6 w7) := hid (by rw [h7]; exact (Chg.refl NoB _).drewN _)
          clear h7
          go_wp2_with fail
          refine (samePags _ _ p p _ (Rd.mono R2.out C7.out) (Rd.mono R4.out C7.out) true (hid (by simp))).mono ?_
          rintro e w8 ⟨rfl, m8, h8⟩
          have C8 : Hid (Chg NoB w7 w8) := hid (by rw [h8]; exact (Chg.refl NoB _).drewN _)
          clear h8
          go_wp2
          go_ret
          exact ⟨rfl, C6.out.trans' (C7.out.trans' C8.out)⟩
end Go.Proofs.Ytipmchdogdemjaa
