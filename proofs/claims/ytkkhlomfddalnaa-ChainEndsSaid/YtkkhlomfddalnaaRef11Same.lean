import Derived.Test.YtkkhlomfddalnaaRecSame1
import Derived.Test.YtkkhlomfddalnaaRef11Undo
namespace Go.Proofs.Ytkkhlomfddalnaa
open Go.RowKit Go.ChangeMaps
set_option linter.unusedVariables false

/-- The cells of a record, whatever its numbers. -/
def RecT (w : World) (r : Rec) (cs : List Value) : Prop := ∃ v1 v2, cs = r.cs v1 v2 ∧ Tabs w r v1 v2
/-- A list of records that is read. -/
def Recs (w : World) (v : Value) (l : List Rec) : Prop := RdR w 11 (RecT w) v l
theorem Recs.mono {w w' : World} {v : Value} {l : List Rec} (h : Recs w v l) (hc : Chg NoB w w') : Recs w' v l :=
  RdR.mono h hc fun _ _ ⟨v1, v2, h1, h2⟩ => ⟨v1, v2, h1, h2.mono hc⟩

theorem tabs_nil {w : World} {r : Rec} (h1 : r.txns = []) (h2 : r.pages = []) : Tabs w r (.slice none 0 0) (.slice none 0 0) := by
  refine ⟨⟨none, 0, by rw [h1]; rfl, by simp [h1], by simp [h1, maxLen], fun i x hi => by rw [h1] at hi; simp at hi⟩, ⟨none, 0, by rw [h2]; rfl, by simp [h2], by simp [h2, maxLen], fun i x hi => by rw [h2] at hi; simp at hi⟩⟩

theorem Recs.of_own {w : World} {base : Nat} {e : TypeId} {v : Value} {l : List Rec} (h : w.ownsRow base e 11 v l.length (l.flatMap Rec.csn)) (hn : ∀ r ∈ l, r.txns = [] ∧ r.pages = []) : Recs w v l := by
  obtain ⟨a, c, h1, h2, h3, h4⟩ := Rd.of_own (fun x => by simp [Rec.csn, Rec.cs]) h
  refine ⟨a, c, h1, h2, h3, fun i x hi => ?_⟩
  obtain ⟨b, off, h5, h6⟩ := h4 i x hi
  obtain ⟨n1, n2⟩ := hn x (List.mem_of_getElem? hi)
  exact ⟨_, b, off, ⟨_, _, rfl, tabs_nil n1 n2⟩, by simp [Rec.cs], h5, fun j u hu => h6 j u hu⟩

/-- The cells of element k, in a later world. -/
theorem Recs.cells {w wr : World} {a : Option Addr} {l : List Rec} (h : ∀ i x, l[i]? = some x → ∃ cs b off, RecT w x cs ∧ cs.length = 11 ∧ a = some ⟨b, off, none⟩ ∧ ∀ j u, cs[j]? = some u → w.cell? ⟨b, off + i * 11 + j, none⟩ = some u)
    (hc : Chg NoB w wr) (k : Nat) (hk : k < l.length) : ∃ x b off v1 v2, Hid (l[k] = x) ∧ a = some ⟨b, off, none⟩ ∧ Tabs w x v1 v2 ∧
      wr.cell? ⟨b, off + k * 11, none⟩ = some (.int .i64 x.kind) ∧
      wr.cell? ⟨b, off + k * 11 + 1, none⟩ = some (.int .i64 x.txn) ∧
      wr.cell? ⟨b, off + k * 11 + 2, none⟩ = some (.int .i64 x.page) ∧
      wr.cell? ⟨b, off + k * 11 + 3, none⟩ = some (.int .i64 x.off) ∧
      wr.cell? ⟨b, off + k * 11 + 4, none⟩ = some (.int .i64 x.prev) ∧
      wr.cell? ⟨b, off + k * 11 + 5, none⟩ = some (.int .i64 x.next) ∧
      wr.cell? ⟨b, off + k * 11 + 6, none⟩ = some (.int .i64 x.beg) ∧
      wr.cell? ⟨b, off + k * 11 + 7, none⟩ = some (.string x.before) ∧
      wr.cell? ⟨b, off + k * 11 + 8, none⟩ = some (.string x.after) ∧
      wr.cell? ⟨b, off + k * 11 + 9, none⟩ = some v1 ∧
      wr.cell? ⟨b, off + k * 11 + 10, none⟩ = some v2 := by
  obtain ⟨cs, b, off, ⟨v1, v2, rfl, ht⟩, _, ha, h2⟩ := h k _ (List.getElem?_eq_getElem hk)
  have g : ∀ j u, (l[k].cs v1 v2)[j]? = some u → wr.cell? ⟨b, off + k * 11 + j, none⟩ = some u := fun j u hu => hc.cell (h2 j u hu) (fun e => e)
  exact ⟨l[k], b, off, v1, v2, rfl, ha, ht, g 0 _ rfl, g 1 _ rfl, g 2 _ rfl, g 3 _ rfl, g 4 _ rfl, g 5 _ rfl, g 6 _ rfl, g 7 _ rfl, g 8 _ rfl, g 9 _ rfl, g 10 _ rfl⟩

theorem rsame_len {a b : List Rec} (h : ¬ a.length = b.length) : decide (a = b) = false := by
  rw [decide_eq_false_iff_not]; intro e; exact h (by rw [e])
theorem rsame_at {a b : List Rec} {k : Nat} (ha : k < a.length) (hb : k < b.length) (h : ¬ a[k] = b[k]) : decide (a = b) = false := by
  rw [decide_eq_false_iff_not]; intro e; subst e; exact h rfl
theorem rsame_all {a b : List Rec} (hl : a.length = b.length) (h : ∀ j (ha : j < a.length) (hb : j < b.length), a[j] = b[j]) : decide (a = b) = true := by
  rw [decide_eq_true_iff]
  exact List.ext_getElem hl fun i h1 h2 => h i h1 h2

set_option maxRecDepth 100000 in
set_option maxHeartbeats 8000000 in
theorem ref11Same (va vb : Value) (a b : List Rec) (w : World) (ha : Recs w va a) (hb : Recs w vb b) (r : Bool) (hr : Hid (r = decide (a = b))) :
    Calls Try.prog 17 #[va, vb] w fun e w' => e = .returned (.bool r) ∧ Chg NoB w w' := by
  obtain ⟨aa, ca, rfl, ha1, ha2, ha3⟩ := ha
  obtain ⟨ab, cb, rfl, hb1, hb2, hb3⟩ := hb
  unfold maxLen at ha2 hb2
  by_cases hl : a.length = b.length
  · rw [← hl] at hb1 hb2 ⊢
    have HL := hid hl
    clear hl
    go_enter Try.func17, Try.ntmps17
    go_wp2
    go_loopw [5] (fun i wr => ∃ k : Nat, k ≤ a.length ∧ i = .int .i64 k ∧ Hid (∀ j (h1 : j < k) (h2 : j < a.length) (h3 : j < b.length), a[j] = b[j]) ∧ Hid (Chg NoB w wr)) (fun i _ => a.length - (intOf i).toNat)
    case atStart => exact ⟨0, by omega, rfl, hid (fun j h => by omega), Chg.refl _ _⟩
    case round =>
      obtain ⟨k, hk, rfl, HE, hc⟩ := hrel
      by_cases hlt : k < a.length
      · have hlb : k < b.length := by rw [← HL.out]; exact hlt
        have HA := hid ha3
        have HB := hid hb3
        clear ha3 hb3
        obtain ⟨x, ba, oa, v1, v2, hx, rfl, htx, g0, g1, g2, g3, g4, g5, g6, g7, g8, g9, g10⟩ := Recs.cells HA.out hc.out k hlt
        obtain ⟨y, bb, ob, u1, u2, hy, rfl, hty, e0, e1, e2, e3, e4, e5, e6, e7, e8, e9, e10⟩ := Recs.cells HB.out hc.out k hlb
        have tx := hid (htx.mono hc.out)
        have ty := hid (hty.mono hc.out)
        clear htx hty
        obtain ⟨s, hs⟩ := named (decide (x = y))
        cases s
        · go_wp2_with fail
          go_region_with (go_at_call 25; refine (recSame x y v1 v2 u1 u2 _ (tx.out.mono ((Chg.refl NoB _).drew)) (ty.out.mono ((Chg.refl NoB _).drew)) _ hs).mono ?_; rintro e w' ⟨rfl, hc'⟩)
          all_goals go_wp2_with fail
          all_goals go_ret
          all_goals exact ⟨ret_bool (by rw [hr.out]; symm; exact rsame_at hlt hlb (by rw [hx.out, hy.out]; have := hs.out; simpa using this.symm)), hc.out.drew.trans' hc'⟩
        · go_wp2_with fail
          go_region_with (go_at_call 25; refine (recSame x y v1 v2 u1 u2 _ (tx.out.mono ((Chg.refl NoB _).drew)) (ty.out.mono ((Chg.refl NoB _).drew)) _ hs).mono ?_; rintro e w' ⟨rfl, hc'⟩)
          all_goals
            go_wp2_with fail
            go_roundw
            case rel =>
              refine ⟨k + 1, by omega, by go_num, hid (fun j h1 h2 h3 => ?_), hc.out.drew.trans' hc'⟩
              by_cases hjk : j < k
              · exact HE.out j hjk h2 h3
              · obtain rfl : j = k := by omega
                rw [hx.out, hy.out]
                have := hs.out
                simpa using this.symm
            case measure => simp [intOf]; omega
      · obtain rfl : k = a.length := by omega
        go_wp2_with fail
        go_ret
        exact ⟨ret_bool (by rw [hr.out]; symm; exact rsame_all HL.out (fun j h1 h2 => HE.out j h1 h1 h2)), hc.out⟩
  · have HR := hid (hr.out.trans (rsame_len hl))
    have hl2 : (a.length == b.length) = false := by simpa using hl
    clear hl
    go_enter Try.func17, Try.ntmps17
    go_wp2
    go_ret
    exact ⟨ret_bool HR.out.symm, Chg.refl _ _⟩
end Go.Proofs.Ytkkhlomfddalnaa
