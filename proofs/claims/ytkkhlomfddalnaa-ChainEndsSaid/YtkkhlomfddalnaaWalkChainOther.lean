import Derived.Test.YtkkhlomfddalnaaWalkChainWalks
namespace Go.Proofs.Ytkkhlomfddalnaa
open Go.RowKit Go.ChangeMaps
set_option linter.unusedVariables false

theorem slEnt : SlT Try.prog 22 47 (.agg #[.int .i64 0, .int .i64 0, .int .i64 0, .int .i64 0, .int .i64 0, .int .i64 0, .int .i64 0, .int .i64 0, .string ⟨#[]⟩, .string ⟨#[]⟩, .slice none 0 0, .slice none 0 0]) 12 144 := ⟨Try.underlying22, by kernel_rfl, rfl, by omega⟩

/-- The cells of an entry with its tables. -/
def encE (p : Ent × Value × Value) : List Value := .int .i64 p.1.at_ :: p.1.r.cs p.2.1 p.2.2

/-- A list of entries of one's own, whose tables lie in the world w0. -/
def OwnE (w0 w : World) (base : Nat) (v : Value) (L : List Ent) : Prop :=
  ∃ xs : List (Ent × Value × Value), xs.map (·.1) = L ∧ (∀ p ∈ xs, Tabs w0 p.1.r p.2.1 p.2.2 ∧ p.1.r.ok ∧ fits p.1.at_) ∧ w.ownsRow base 47 12 v xs.length (xs.flatMap encE)

theorem OwnE.nil (w0 w : World) (base : Nat) : OwnE w0 w base (.slice none 0 0) [] := ⟨[], rfl, by simp, World.ownsRow_nil _ _ _ _⟩

theorem OwnE.ents {w0 w : World} {base : Nat} {v : Value} {L : List Ent} (h : OwnE w0 w base v L) (hc : Chg NoB w0 w) : Ents w v L := by
  obtain ⟨xs, rfl, h2, h3⟩ := h
  obtain ⟨a, c, e1, e2, e3, e4⟩ := Rd.of_own (fun x => by simp [encE, Rec.cs]) h3
  refine ⟨a, c, by rw [e1]; simp, by simpa using e2, by simpa using e3, fun i x hi => ?_⟩
  rw [List.getElem?_map] at hi
  obtain ⟨p, hp, rfl⟩ := Option.map_eq_some_iff.1 hi
  obtain ⟨b, off, e5, e6⟩ := e4 i p hp
  obtain ⟨t1, t2, t3⟩ := h2 p (List.mem_of_getElem? hp)
  exact ⟨_, b, off, ⟨_, _, rfl, t1.mono hc, t2, t3⟩, by simp [Rec.cs], e5, fun j u hu => e6 j u hu⟩

theorem OwnE.len {w0 w : World} {base : Nat} {v : Value} {L : List Ent} (h : OwnE w0 w base v L) : ∃ ao co, v = .slice ao L.length co := by
  obtain ⟨xs, rfl, h2, h3⟩ := h
  obtain ⟨ao, co, rfl⟩ := ownsForm h3
  exact ⟨ao, co, by simp⟩

theorem own_snoc_yes {l : List Ent} {k : Nat} {x : Ent} (hk : k < l.length) (hx : l[k] = x) (h : (x.r.txn == 1) = true) : ownOf 1 (l.take (k + 1)) = ownOf 1 (l.take k) ++ [x] := by
  rw [List.take_succ_eq_append_getElem hk, hx]; simp [ownOf, List.filter_append]
  simpa using h
theorem own_snoc_no {l : List Ent} {k : Nat} {x : Ent} (hk : k < l.length) (hx : l[k] = x) (h : (x.r.txn == 1) = false) : ownOf 1 (l.take (k + 1)) = ownOf 1 (l.take k) := by
  rw [List.take_succ_eq_append_getElem hk, hx]; simp [ownOf, List.filter_append]
  simpa using h

set_option maxRecDepth 100000 in
set_option maxHeartbeats 8000000 in
theorem chainOther_walk (w : World) (v : Value) (l : List Ent) (hv : Ents w v l) (last : Int) (_h2 : (Lit.int .i64 last).wf = true) :
    Calls Try.prog 6 #[v, .int .i64 last] w fun e w' => e = .returned (.bool true) ∧ Chg NoB w w' := by
  obtain ⟨f, hf⟩ := named (entsFew l)
  obtain ⟨g, hg⟩ := named (risesB l)
  have HV := hid hv
  have hform : ∃ a c, v = .slice a l.length c ∧ l.length ≤ c ∧ l.length ≤ maxLen := by obtain ⟨a, c, rfl, h1, h2, _⟩ := hv; exact ⟨_, _, rfl, h1, h2⟩
  obtain ⟨a, c, rfl, q1, q2⟩ := hform
  unfold maxLen at q2
  clear hv _h2
  cases f
  · go_enter Try.func6, Try.ntmps6
    go_wp2_with (first
      | (go_at_call 8; refine (awake w).mono ?_; rintro e w1 ⟨rfl, c1⟩)
      | (go_at_call 9; refine (entsFew_calls _ l _ (HV.out.mono c1) _ hf).mono ?_; rintro e w2 ⟨rfl, c2⟩))
    refine (awake w2).mono ?_
    rintro e w3 ⟨rfl, c3⟩
    go_wp2
    go_ret
    exact ⟨rfl, c1.trans' (c2.trans' c3)⟩
  cases g
  · go_enter Try.func6, Try.ntmps6
    go_wp2_with (first
      | (go_at_call 8; refine (awake w).mono ?_; rintro e w1 ⟨rfl, c1⟩)
      | (go_at_call 9; refine (entsFew_calls _ l _ (HV.out.mono c1) _ hf).mono ?_; rintro e w2 ⟨rfl, c2⟩)
      | (go_at_call 20; refine (rises_calls _ l _ (HV.out.mono (c1.trans' c2)) _ hg).mono ?_; rintro e w3 ⟨rfl, n3, h3⟩; have c3 : Chg NoB w2 w3 := (by rw [h3]; exact (Chg.refl _ _).drewN n3); clear h3))
    refine (awake w3).mono ?_
    rintro e w4 ⟨rfl, c4⟩
    go_wp2
    go_ret
    exact ⟨rfl, c1.trans' (c2.trans' (c3.trans' c4))⟩
  · have hl := few_len hf.out
    go_enter Try.func6, Try.ntmps6
    go_wp2_with (first
      | (go_at_call 8; refine (awake w).mono ?_; rintro e w1 ⟨rfl, c1⟩)
      | (go_at_call 9; refine (entsFew_calls _ l _ (HV.out.mono c1) _ hf).mono ?_; rintro e w2 ⟨rfl, c2⟩)
      | (go_at_call 20; refine (rises_calls _ l _ (HV.out.mono (c1.trans' c2)) _ hg).mono ?_; rintro e w3 ⟨rfl, n3, h3⟩; have c3 : Chg NoB w2 w3 := (by rw [h3]; exact (Chg.refl _ _).drewN n3); clear h3))
    have C3 : Chg NoB w w3 := c1.trans' (c2.trans' c3)
    clear c1 c2 c3
    have HE3 := hid (HV.out.mono C3)
    have hE3 := HE3.out
    obtain ⟨_, _, ee, _, _, HR⟩ := hE3
    cases ee
    have HHR := hid HR
    clear HR
    go_loopw [5, 27] (fun o i wr => ∃ k : Nat, k ≤ l.length ∧ i = .int .i64 k ∧ Hid (Chg NoB w3 wr) ∧ Hid (OwnE w3 wr w3.heap.size o (ownOf 1 (l.take k)))) (fun _ i _ => l.length - (intOf i).toNat)
    case atStart => exact ⟨0, by omega, rfl, Chg.refl _ _, OwnE.nil _ _ _⟩
    case round =>
      obtain ⟨k, hk, rfl, hc, hO⟩ := hrel
      obtain ⟨ao, co, rfl⟩ := hO.out.len
      by_cases hlt : k < l.length
      · obtain ⟨x, b, off, v1, v2, hx, rfl, ht, hok, g0, g1, g2, g3, g4, g5, g6, g7, g8, g9, g10, g11⟩ := Ents.cells HHR.out hc.out k hlt
        obtain ⟨⟨a1, n1, c1, rfl⟩, ⟨a2, n2, c2, rfl⟩⟩ := ht.form
        have HT := hid ht
        clear ht
        go_wp2_with ((fail_if_success (fail_if_success (with_reducible change wpList _ _ _ (Oper.mk _ (.store 47 _ _) _ _ _ _ :: _) _ _))); refine step_storeRow rfl rfl wr.heap.size (cells := #[.int .i64 x.at_, .int .i64 x.r.kind, .int .i64 x.r.txn, .int .i64 x.r.page, .int .i64 x.r.off, .int .i64 x.r.prev, .int .i64 x.r.next, .int .i64 x.r.beg, .string x.r.before, .string x.r.after, .slice a1 n1 c1, .slice a2 n2 c2]) rfl rfl (blk_new _ _) (by kernel_rfl) rfl (by simp [Value.oneCell']) ?_)
        intro w4 hb4 hc4 hs4
        have f2 : w4.cell? ⟨wr.heap.size, 2, none⟩ = some (.int .i64 x.r.txn) := by rw [cell_blk hb4]; rfl
        have C4 : Chg NoB w3 w4 := (hc.out.alloc _).trans hc4 (fun i hi => by cases hi; exact .inr hc.out.size)
        have HB4 := hid hb4
        have HC4 := hid C4
        have HS4 : Hid (w4.heap.size = wr.heap.size + 1) := by simpa [Hid] using hs4
        obtain ⟨xs, hxs1, hxs2, hxs3⟩ := hO.out
        have HX1 := hid hxs1
        have HX2 := hid hxs2
        have hlen : (ownOf 1 (l.take k)).length = xs.length := by rw [← HX1.out]; simp
        have hlen2 : xs.length ≤ 200 := by
          rw [← hlen]
          have h1 := List.length_filter_le (fun x : Ent => x.r.txn == 1) (l.take k)
          have h2 : l.length ≤ 200 := by have := hf.out; simp [entsFew] at this; exact this.2
          have h3 : (l.take k).length ≤ l.length := by rw [List.length_take]; omega
          unfold ownOf
          omega
        rw [hlen] at hxs3 ⊢
        have HO4 := hid (ownsRow.chg hxs3 (((Chg.refl (OneB wr.heap.size) wr).alloc _).trans' hc4) (fun j hj e => by have := OwnB.ge hxs3 j hj; cases e; omega))
        have hcs := hc.out.size
        clear hb4 hc4 hs4 C4 hxs1 hxs2 hxs3 hlen g0 g1 g2 g3 g4 g5 g6 g7 g8 g9 g10 g11
        cases ht : (x.r.txn == 1)
        · have HN := hid (own_snoc_no hlt hx.out ht)
          go_wp2_with fail
          go_roundw
          case rel => exact ⟨k + 1, by omega, by go_num, HC4.out, hid (by rw [HN.out]; exact ⟨xs, HX1.out, HX2.out, HO4.out⟩)⟩
          case measure => simp [intOf]; omega
        · have HN := hid (own_snoc_yes hlt hx.out ht)
          go_wp2_with (first
            | ((fail_if_success (fail_if_success (with_reducible change wpList _ _ _ (Oper.mk _ (.load 47 _) _ _ _ _ :: _) _ _))); refine step_loadRow rfl rfl wr.heap.size rfl HB4.out Try.underlying47 (by kernel_rfl) ?_)
            | (at_builtin; refine step_app1 slEnt rfl _ _ rfl (World.ownsRow.alloc HO4.out _) rfl w4.heap.size [.int .i64 x.at_, .int .i64 x.r.kind, .int .i64 x.r.txn, .int .i64 x.r.page, .int .i64 x.r.off, .int .i64 x.r.prev, .int .i64 x.r.next, .int .i64 x.r.beg, .string x.r.before, .string x.r.after, .slice a1 n1 c1, .slice a2 n2 c2] rfl (blk_new _ _) rfl rfl (by simp [Value.oneCell']) ?_ ?_ ?_ ?_))
          case _ => omega
          case _ => unfold maxLen; omega
          case _ => have := HS4.out; first | omega | (simp; omega)
          intro v5 w5 hv5 hc5 hvo hnil
          have C5 := hid ((HC4.out.alloc _).new hc5 fun i hi => (OwnB.ge HO4.out i hi).1)
          have HV5 := hid hv5
          clear hv5 hc5 hvo hnil f2
          go_wp2_with fail
          go_roundw
          case rel =>
            refine ⟨k + 1, by omega, by go_num, C5.out, hid ?_⟩
            rw [HN.out]
            refine ⟨xs ++ [(x, .slice a1 n1 c1, .slice a2 n2 c2)], by simp [HX1.out], fun p hp => ?_, by simpa [encE, Rec.cs] using HV5.out⟩
            rcases List.mem_append.1 hp with hp | hp
            · exact HX2.out p hp
            · obtain rfl : p = _ := by simpa using hp
              exact ⟨HT.out, hok.out⟩
          case measure => simp [intOf]; omega
      · obtain rfl : k = l.length := by omega
        rw [List.take_length] at hO ⊢
        obtain ⟨⟨us, eu⟩, hu⟩ := named (undoOf l 1 last 0)
        obtain ⟨⟨ws, ew⟩, hw⟩ := named (undoOf (ownOf 1 l) 1 last 0)
        have HW : Hid (eu = 0 → ws = us ∧ ew = 0) := by
          rintro rfl
          have := other_plain hu.out.symm
          rw [← hw.out] at this
          cases this
          exact ⟨rfl, rfl⟩
        have hut := hid (undoOf_tabs (l := l) (txn := 1) (last := last) (stop := 0))
        have hwt := hid (undoOf_tabs (l := ownOf 1 l) (txn := 1) (last := last) (stop := 0))
        rw [← hu.out] at hut
        rw [← hw.out] at hwt
        have hol : (ownOf 1 l).length ≤ 1000000 := Nat.le_trans (List.length_filter_le _ _) hl
        go_wp2_with fail
        refine (undo_calls _ l 1 last 0 _ (HE3.out.mono hc.out) hl).mono ?_
        rintro e w4 ⟨v4, rfl, ho4, c4⟩
        rw [← hu.out] at ho4 ⊢
        have hE4 : Ents w4 (.slice ao (ownOf 1 l).length co) (ownOf 1 l) := (hO.out.ents hc.out).mono c4
        have R4 := hid (Recs.of_own ho4 hut.out)
        obtain ⟨a4, k4, rfl⟩ := ownsForm ho4
        have C4 : Chg NoB w w4 := C3.trans' (hc.out.trans' c4)
        clear c4 ho4 hO
        go_wp2_with fail
        refine (undo_calls _ (ownOf 1 l) 1 last 0 _ hE4 hol).mono ?_
        rintro e w5 ⟨v5, rfl, ho5, c5⟩
        rw [← hw.out] at ho5 ⊢
        have R5 := hid (Recs.of_own ho5 hwt.out)
        replace R4 := hid (R4.out.mono c5)
        obtain ⟨a5, k5, rfl⟩ := ownsForm ho5
        have C5 : Chg NoB w w5 := C4.trans' c5
        clear c5 ho5 hE4 C4
        cases he : (eu != 0)
        · obtain rfl : eu = 0 := by simpa using he
          obtain ⟨rfl, rfl⟩ := HW.out rfl
          go_wp2_with fail
          refine (ref11Same _ _ ws ws _ R4.out R5.out true (hid (by simp))).mono ?_
          rintro e w6 ⟨rfl, c6⟩
          go_wp2
          go_ret
          exact ⟨rfl, C5.trans' c6⟩
        · go_wp2_with fail
          go_ret
          exact ⟨rfl, C5⟩
end Go.Proofs.Ytkkhlomfddalnaa
