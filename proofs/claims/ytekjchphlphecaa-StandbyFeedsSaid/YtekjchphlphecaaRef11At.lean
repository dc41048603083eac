import Derived.Test.YtekjchphlphecaaA4
import Derived.Test.YtekjchphlphecaaA1
namespace Go.Proofs.Ytekjchphlphecaa
open Go.RowKit Go.ChangeMaps
set_option linter.unusedVariables false
set_option linter.unusedSimpArgs false

/-- What the reference's at answers. -/
def AtAns (l : List Ent) (txn p : Int) (w' : World) (e : Ending) : Prop :=
  (entAt l p = none ∧ e = .returned (.tuple #[.agg #[.int .i64 0, .int .i64 0, .int .i64 0, .int .i64 0, .int .i64 0, .int .i64 0, .int .i64 0, .string ⟨#[]⟩, .string ⟨#[]⟩, .slice none 0 0, .slice none 0 0], .int .i64 7])) ∨
  ∃ r v1 v2, entAt l p = some r ∧ Tabs w' r v1 v2 ∧ e = .returned (.tuple #[r.val v1 v2, .int .i64 (if recBad txn p r then 1 else 0)])

theorem entAt_snoc {l : List Ent} {p : Int} {k : Nat} (hk : k < l.length) (hn : (l.take k).find? (fun x => x.at_ == p) = none) {x : Ent} (hx : l[k] = x) (hne : x.at_ ≠ p) : (l.take (k + 1)).find? (fun x => x.at_ == p) = none := by
  rw [List.take_succ_eq_append_getElem hk, List.find?_append, hn, hx]
  simp [hne]
theorem entAt_found {l : List Ent} {p : Int} {k : Nat} (hk : k < l.length) (hn : (l.take k).find? (fun x => x.at_ == p) = none) {x : Ent} (hx : l[k] = x) (he : x.at_ = p) : entAt l p = some x.r := by
  unfold entAt
  conv => lhs; arg 2; rw [← List.take_append_drop k l]
  rw [List.find?_append, hn, List.drop_eq_getElem_cons hk, hx]
  simp [he]
theorem entAt_not {l : List Ent} {p : Int} (hn : (l.take l.length).find? (fun x => x.at_ == p) = none) : entAt l p = none := by
  unfold entAt; rw [List.take_length] at hn; rw [hn]; rfl

theorem Rec.blk {w : World} {g : Nat} {r : Rec} {v1 v2 : Value} {t : TypeId} (h : w.heap[g]? = some (.cells #[.int .i64 r.kind, .int .i64 r.txn, .int .i64 r.page, .int .i64 r.off, .int .i64 r.prev, .int .i64 r.next, .int .i64 r.beg, .string r.before, .string r.after, v1, v2] t (0, 0))) :
    w.cell? ⟨g, 0, none⟩ = some (.int .i64 r.kind) ∧ w.cell? ⟨g, 1, none⟩ = some (.int .i64 r.txn) ∧ w.cell? ⟨g, 2, none⟩ = some (.int .i64 r.page) ∧ w.cell? ⟨g, 3, none⟩ = some (.int .i64 r.off) ∧
    w.cell? ⟨g, 4, none⟩ = some (.int .i64 r.prev) ∧ w.cell? ⟨g, 5, none⟩ = some (.int .i64 r.next) ∧ w.cell? ⟨g, 6, none⟩ = some (.int .i64 r.beg) ∧ w.cell? ⟨g, 7, none⟩ = some (.string r.before) ∧ w.cell? ⟨g, 8, none⟩ = some (.string r.after) ∧
    w.cell? ⟨g, 9, none⟩ = some v1 ∧ w.cell? ⟨g, 10, none⟩ = some v2 := by
  refine ⟨?_, ?_, ?_, ?_, ?_, ?_, ?_, ?_, ?_, ?_, ?_⟩ <;> rw [cell_blk h] <;> rfl

theorem Tabs.one {w : World} {r : Rec} {v1 v2 : Value} (h : Tabs w r v1 v2) : v1.oneCell' = true ∧ v2.oneCell' = true := by
  obtain ⟨⟨a1, c1, rfl, _⟩, ⟨a2, c2, rfl, _⟩⟩ := h
  exact ⟨rfl, rfl⟩
theorem Tabs.form {w : World} {r : Rec} {v1 v2 : Value} (h : Tabs w r v1 v2) : (∃ a n c, v1 = .slice a n c) ∧ (∃ a n c, v2 = .slice a n c) := by
  obtain ⟨⟨a1, c1, rfl, _⟩, ⟨a2, c2, rfl, _⟩⟩ := h
  exact ⟨⟨_, _, _, rfl⟩, ⟨_, _, _, rfl⟩⟩
theorem Rec.all {w : World} {r : Rec} {v1 v2 : Value} (h : Tabs w r v1 v2) :
    (#[Value.int .i64 r.kind, .int .i64 r.txn, .int .i64 r.page, .int .i64 r.off, .int .i64 r.prev, .int .i64 r.next, .int .i64 r.beg, .string r.before, .string r.after, v1, v2] : Array Value).all (fun x => x.oneCell') = true := by
  obtain ⟨⟨a1, c1, rfl, _⟩, ⟨a2, c2, rfl, _⟩⟩ := h
  simp [Value.oneCell']

set_option maxRecDepth 100000 in
set_option maxHeartbeats 8000000 in
theorem ref11At (v : Value) (l : List Ent) (txn place : Int) (w : World) (hv : Ents w v l) :
    Calls Try.prog 57 #[v, .int .i64 txn, .int .i64 place] w fun e w' => AtAns l txn place w' e ∧ Chg NoB w w' := by
  obtain ⟨a, c, rfl, h1, h2, h3⟩ := hv
  unfold maxLen at h2
  go_enter Try.func57, Try.ntmps57
  go_wp2
  go_loopw [8] (fun i wr => ∃ k : Nat, k ≤ l.length ∧ i = .int .i64 k ∧ Hid ((l.take k).find? (fun x => x.at_ == place) = none) ∧ Hid (Chg NoB w wr) ∧ Hid (∃ old : Array Value, old.size = 11 ∧ wr.heap[w.heap.size]? = some (.cells old 55 (0, 0)))) (fun i _ => l.length - (intOf i).toNat)
  case atStart => exact ⟨0, by omega, rfl, rfl, (Chg.refl _ _).alloc _, _, rfl, blk_new _ _⟩
  case round =>
    obtain ⟨k, hk, rfl, HN, hc, HO⟩ := hrel
    by_cases hlt : k < l.length
    · obtain ⟨x, b, off, v1, v2, hx, rfl, ht, _, g0, g1, g2, g3, g4, g5, g6, g7, g8, g9, g10, g11⟩ := Ents.cells h3 hc.out k hlt
      have HA := hid h3
      clear h3
      obtain ⟨⟨a1, n1, c1, rfl⟩, ⟨a2, n2, c2, rfl⟩⟩ := ht.form
      have HT := hid ht
      clear ht
      cases hp : (x.at_ == place)
      · have HS := hid (entAt_snoc hlt HN.out hx.out (by simpa using hp))
        go_wp2
        go_roundw
        case rel => exact ⟨k + 1, by omega, by go_num, HS, hc, HO⟩
        case measure => simp [intOf]; omega
      · have HF := hid (entAt_found hlt HN.out hx.out (by simpa using hp))
        obtain ⟨old, ho1, ho2⟩ := HO.out
        have HO2 := hid ho2
        clear ho2
        go_wp2_with ((fail_if_success (fail_if_success (with_reducible change wpList _ _ _ (Oper.mk _ (.store 55 _ _) _ _ _ _ :: _) _ _))); refine step_storeRow rfl rfl wr.heap.size (cells := #[.int .i64 x.r.kind, .int .i64 x.r.txn, .int .i64 x.r.page, .int .i64 x.r.off, .int .i64 x.r.prev, .int .i64 x.r.next, .int .i64 x.r.beg, .string x.r.before, .string x.r.after, .slice a1 n1 c1, .slice a2 n2 c2]) rfl rfl (blk_new _ _) (by kernel_rfl) rfl (Rec.all HT.out) ?_)
        intro w1 hb1 hc1 hs1
        have C1 : Chg NoB w w1 := ((hc.out.alloc _).trans hc1 (fun i hi => by cases hi; exact .inr hc.out.size))
        obtain ⟨b0, b1, b2, b3, b4, b5, b6, b7, b8, b9, b10⟩ := Rec.blk hb1
        have HB := hid hb1
        have hb2 : w1.heap[w.heap.size]? = some (.cells old 55 (0, 0)) := hc1.heap (blk_alloc HO2.out _) (fun e => by have h3 := lt_of_block HO2.out; rw [e] at h3; simp at h3)
        have HB2 := hid hb2
        clear hb1 hb2
        go_wp2_with ((fail_if_success (fail_if_success (with_reducible change wpList _ _ _ (Oper.mk _ (.store 55 _ _) _ _ _ _ :: _) _ _))); refine step_storeRow rfl rfl w.heap.size rfl rfl HB2.out (by kernel_rfl) ho1 (by simp [Value.oneCell']) ?_; intro w2 hb3 hc3 hs3)
        all_goals refine bodyPost_ret (res_row2 Try.underlying55 rfl _ _ w.heap.size rfl hb3 (by kernel_rfl)) rfl ?_
        all_goals have C3 : Chg NoB w w2 := C1.trans hc3 (fun i hi => by cases hi; exact .inr (Nat.le_refl _))
        all_goals refine ⟨.inr ⟨x.r, _, _, HF.out, HT.out.mono C3, ?_⟩, C3⟩
        all_goals refine congrArg Ending.returned (congrArg Value.tuple ?_)
        all_goals first
          | (rw [if_pos (by simp [recBad]; omega)]; simp [Rec.val]; done)
          | (rw [if_neg (by simp [recBad]; omega)]; simp [Rec.val]; done)
          | (rw [if_pos (by simp [recBad]; omega)]; simp [Rec.val]; omega)
          | (rw [if_neg (by simp [recBad]; omega)]; simp [Rec.val]; omega)
    · obtain rfl : k = l.length := by omega
      have HF := hid (entAt_not HN.out)
      obtain ⟨old, ho1, ho2⟩ := HO.out
      have HO2 := hid ho2
      clear ho2
      go_wp2_with ((fail_if_success (fail_if_success (with_reducible change wpList _ _ _ (Oper.mk _ (.store 55 _ _) _ _ _ _ :: _) _ _))); refine step_storeRow rfl rfl w.heap.size (cells := #[.int .i64 0, .int .i64 0, .int .i64 0, .int .i64 0, .int .i64 0, .int .i64 0, .int .i64 0, .string ⟨#[]⟩, .string ⟨#[]⟩, .slice none 0 0, .slice none 0 0]) rfl rfl HO2.out (by kernel_rfl) ho1 (by simp [Value.oneCell']) ?_)
      intro w1 hb1 hc1 hs1
      go_wp2
      refine bodyPost_ret (res_row2 Try.underlying55 rfl _ _ w.heap.size rfl hb1 (by kernel_rfl)) rfl ?_
      exact ⟨.inl ⟨HF.out, rfl⟩, hc.out.trans hc1 (fun i hi => by cases hi; exact .inr (Nat.le_refl _))⟩

theorem AtAns.none {l : List Ent} {txn p : Int} {w' : World} {e : Ending} (h : AtAns l txn p w' e) (he : entAt l p = none) : e = .returned (.tuple #[.agg #[.int .i64 0, .int .i64 0, .int .i64 0, .int .i64 0, .int .i64 0, .int .i64 0, .int .i64 0, .string ⟨#[]⟩, .string ⟨#[]⟩, .slice none 0 0, .slice none 0 0], .int .i64 7]) := by
  rcases h with ⟨_, h⟩ | ⟨r, v1, v2, h, _⟩
  · exact h
  · rw [he] at h; cases h
theorem AtAns.bad {l : List Ent} {txn p : Int} {w' : World} {e : Ending} (h : AtAns l txn p w' e) {r : Rec} (he : entAt l p = some r) (hb : recBad txn p r = true) :
    ∃ a1 n1 c1 a2 n2 c2, Hid (Tabs w' r (.slice a1 n1 c1) (.slice a2 n2 c2)) ∧ e = .returned (.tuple #[.agg #[.int .i64 r.kind, .int .i64 r.txn, .int .i64 r.page, .int .i64 r.off, .int .i64 r.prev, .int .i64 r.next, .int .i64 r.beg, .string r.before, .string r.after, .slice a1 n1 c1, .slice a2 n2 c2], .int .i64 1]) := by
  rcases h with ⟨h, _⟩ | ⟨r', v1, v2, h, ht, rfl⟩
  · rw [he] at h; cases h
  · rw [he] at h; cases h
    obtain ⟨⟨a1, n1, c1, rfl⟩, ⟨a2, n2, c2, rfl⟩⟩ := ht.form
    exact ⟨a1, n1, c1, a2, n2, c2, ht, by rw [hb]; rfl⟩
theorem AtAns.good {l : List Ent} {txn p : Int} {w' : World} {e : Ending} (h : AtAns l txn p w' e) {r : Rec} (he : entAt l p = some r) (hb : recBad txn p r = false) :
    ∃ a1 n1 c1 a2 n2 c2, Hid (Tabs w' r (.slice a1 n1 c1) (.slice a2 n2 c2)) ∧ e = .returned (.tuple #[.agg #[.int .i64 r.kind, .int .i64 r.txn, .int .i64 r.page, .int .i64 r.off, .int .i64 r.prev, .int .i64 r.next, .int .i64 r.beg, .string r.before, .string r.after, .slice a1 n1 c1, .slice a2 n2 c2], .int .i64 0]) := by
  rcases h with ⟨h, _⟩ | ⟨r', v1, v2, h, ht, rfl⟩
  · rw [he] at h; cases h
  · rw [he] at h; cases h
    obtain ⟨⟨a1, n1, c1, rfl⟩, ⟨a2, n2, c2, rfl⟩⟩ := ht.form
    exact ⟨a1, n1, c1, a2, n2, c2, ht, by rw [hb]; rfl⟩
end Go.Proofs.Ytekjchphlphecaa
