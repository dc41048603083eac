import Derived.Test.YtghklbflbodajaaA4
import Derived.Test.YtghklbflbodajaaA1
namespace Go.Proofs.Ytghklbflbodajaa
open Go.RowKit Go.ChangeMaps
set_option linter.unusedVariables false
set_option linter.unusedSimpArgs false
set_option linter.unnecessarySimpa false

/-- What the reference's at answers. -/
def AtAns (l : List Ent) (txn p : Int) (w' : World) (e : Ending) : Prop :=
  (entAt l p = none ∧ e = .returned (.tuple #[.agg #[.int .i64 0, .int .i64 0, .int .i64 0, .int .i64 0, .int .i64 0, .int .i64 0, .int .i64 0, .string ⟨#[]⟩, .string ⟨#[]⟩, .slice none 0 0, .slice none 0 0], .int .i64 7])) ∨
  ∃ r v1 v2, entAt l p = some r ∧ Tabs w' r v1 v2 ∧ e = .returned (.tuple #[r.val v1 v2, .int .i64 (if recBad txn p r then 1 else 0)])

theorem entAt_snoc {l : List Ent} {p : Int} {k : Nat} (hk : k < l.length) (hn : (l.take k).find? (fun x => x.at_ == p) = none) {x : Ent} (hx : l[k] = x) (hne : x.at_ ≠ p) : (l.take (k + 1)).find? (fun x => x.at_ == p) = none := by
  rw [List.take_succ_eq_append_getElem hk, List.find?_append, hn, hx]
  simp [hne]
theorem entAt_found {l : List Ent} {p : Int} {k : Nat} (hk : k < l.length) (hn : (l.take k).find? (fun x => x.at_ == p) = none) {x : Ent} (hx : l[k] = x) (he : x.at_ = p) : entAt l p = some x.r := by
  unfold entAt
  conv => lhs; arg 2; rw [← List.take_append_drop k l]
  rw [List.find?_append, hn, List.drop_eq_getElem_cons hk, hx]
  simp [he]
theorem entAt_not {l : List Ent} {p : Int} (hn : (l.take l.length).find? (fun x => x.at_ == p) = none) : entAt l p = none := by
  unfold entAt; rw [List.take_length] at hn; rw [hn]; rfl

theorem Rec.blk {w : World} {g : Nat} {r : Rec} {v1 v2 : Value} {t : TypeId} (h : w.heap[g]? = some (.cells #[.int .i64 r.kind, .int .i64 r.txn, .int .i64 r.page, .int .i64 r.off, .int .i64 r.prev, .int .i64 r.next, .int .i64 r.beg, .string r.before, .string r.after, v1, v2] t (0, 0))) :
    w.cell? ⟨g, 0, none⟩ = some (.int .i64 r.kind) ∧ w.cell? ⟨g, 1, none⟩ = some (.int .i64 r.txn) ∧ w.cell? ⟨g, 2, none⟩ = some (.int .i64 r.page) ∧ w.cell? ⟨g, 3, none⟩ = some (.int .i64 r.off) ∧
    w.cell? ⟨g, 4, none⟩ = some (.int .i64 r.prev) ∧ w.cell? ⟨g, 5, none⟩ = some (.int .i64 r.next) ∧ w.cell? ⟨g, 6, none⟩ = some (.int .i64 r.beg) ∧ w.cell? ⟨g, 7, none⟩ = some (.string r.before) ∧ w.cell? ⟨g, 8, none⟩ = some (.string r.after) ∧
    w.cell? ⟨g, 9, none⟩ = some v1 ∧ w.cell? ⟨g, 10, none⟩ = some v2 := by
  refine ⟨?_, ?_, ?_, ?_, ?_, ?_, ?_, ?_, ?_, ?_, ?_⟩ <;> rw [cell_blk h] <;> rfl

theorem Tabs.one {w : World} {r : Rec} {v1 v2 : Value} (h : Tabs w r v1 v2) : v1.oneCell' = true ∧ v2.oneCell' = true := by
  obtain ⟨⟨a1, c1, rfl, _⟩, ⟨a2, c2, rfl, _⟩⟩ := h
  exact ⟨rfl, rfl⟩
theorem Tabs.form {w : World} {r : Rec} {v1 v2 : Value} (h : Tabs w r v1 v2) : (∃ a n c, v1 = .slice a n c) ∧ (∃ a n c, v2 = .slice a n c) := by
  obtain ⟨⟨a1, c1, rfl, _⟩, ⟨a2, c2, rfl, _⟩⟩ := h
  exact ⟨⟨_, _, _, rfl⟩, ⟨_, _, _, rfl⟩⟩
theorem Rec.all {w : World} {r : Rec} {v1 v2 : Value} (h : Tabs w r v1 v2) :
    (#[Value.int .i64 r.kind, .int .i64 r.txn, .int .i64 r.page, .int .i64 r.off, .int .i64 r.prev, .int .i64 r.next, .int .i64 r.beg, .string r.before, .string r.after, v1, v2] : Array Value).all (fun x => x.oneCell') = true := by
  obtain ⟨⟨a1, c1, rfl, _⟩, ⟨a2, c2, rfl, _⟩⟩ := h
  simp [Value.oneCell']

theorem AtAns.none {l : List Ent} {txn p : Int} {w' : World} {e : Ending} (h : AtAns l txn p w' e) (he : entAt l p = none) : e = .returned (.tuple #[.agg #[.int .i64 0, .int .i64 0, .int .i64 0, .int .i64 0, .int .i64 0, .int .i64 0, .int .i64 0, .string ⟨#[]⟩, .string ⟨#[]⟩, .slice none 0 0, .slice none 0 0], .int .i64 7]) := by
  rcases h with ⟨_, h⟩ | ⟨r, v1, v2, h, _⟩
  · exact h
  · rw [he] at h; cases h
theorem AtAns.bad {l : List Ent} {txn p : Int} {w' : World} {e : Ending} (h : AtAns l txn p w' e) {r : Rec} (he : entAt l p = some r) (hb : recBad txn p r = true) :
    ∃ a1 n1 c1 a2 n2 c2, Hid (Tabs w' r (.slice a1 n1 c1) (.slice a2 n2 c2)) ∧ e = .returned (.tuple #[.agg #[.int .i64 r.kind, .int .i64 r.txn, .int .i64 r.page, .int .i64 r.off, .int .i64 r.prev, .int .i64 r.next, .int .i64 r.beg, .string r.before, .string r.after, .slice a1 n1 c1, .slice a2 n2 c2], .int .i64 1]) := by
  rcases h with ⟨h, _⟩ | ⟨r', v1, v2, h, ht, rfl⟩
  · rw [he] at h; cases h
  · rw [he] at h; cases h
    obtain ⟨⟨a1, n1, c1, rfl⟩, ⟨a2, n2, c2, rfl⟩⟩ := ht.form
    exact ⟨a1, n1, c1, a2, n2, c2, ht, by rw [hb]; rfl⟩
theorem AtAns.good {l : List Ent} {txn p : Int} {w' : World} {e : Ending} (h : AtAns l txn p w' e) {r : Rec} (he : entAt l p = some r) (hb : recBad txn p r = false) :
    ∃ a1 n1 c1 a2 n2 c2, Hid (Tabs w' r (.slice a1 n1 c1) (.slice a2 n2 c2)) ∧ e = .returned (.tuple #[.agg #[.int .i64 r.kind, .int .i64 r.txn, .int .i64 r.page, .int .i64 r.off, .int .i64 r.prev, .int .i64 r.next, .int .i64 r.beg, .string r.before, .string r.after, .slice a1 n1 c1, .slice a2 n2 c2], .int .i64 0]) := by
  rcases h with ⟨h, _⟩ | ⟨r', v1, v2, h, ht, rfl⟩
  · rw [he] at h; cases h
  · rw [he] at h; cases h
    obtain ⟨⟨a1, n1, c1, rfl⟩, ⟨a2, n2, c2, rfl⟩⟩ := ht.form
    exact ⟨a1, n1, c1, a2, n2, c2, ht, by rw [hb]; rfl⟩
end Go.Proofs.Ytghklbflbodajaa
