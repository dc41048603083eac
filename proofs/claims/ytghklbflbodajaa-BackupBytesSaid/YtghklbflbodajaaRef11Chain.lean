import Derived.Test.YtghklbflbodajaaRef11At
import Derived.Test.YtghklbflbodajaaA4
namespace Go.Proofs.Ytghklbflbodajaa
open Go.RowKit Go.ChangeMaps
set_option linter.unusedVariables false
set_option linter.unusedSimpArgs false
set_option linter.unnecessarySimpa false

theorem slInt : SlT Try.prog 124 3 (.int .i64 0) 1 8 := ⟨Try.underlying124, by kernel_rfl, rfl, by omega⟩

/-- What a walk has given, and what is left of it. -/
structure Half (l : List Ent) (txn : Int) (go : Int → Bool) (skips : Bool) (last cur : Int) (pre : List (Int × Rec)) : Prop where
  fst : (walk l txn go skips last).1 = pre ++ (walk l txn go skips cur).1
  snd : (walk l txn go skips last).2 = (walk l txn go skips cur).2
section
variable {l : List Ent} {txn : Int} {go : Int → Bool} {skips : Bool} {last cur : Int} {pre : List (Int × Rec)}
theorem Half.start : Half l txn go skips last last [] := ⟨rfl, rfl⟩
theorem Half.step (h : Half l txn go skips last cur pre) {r : Rec} (hg : go cur = true) (he : entAt l cur = some r) (hb : recBad txn cur r = false) : Half l txn go skips last (nextOf skips r) (pre ++ [(cur, r)]) := by
  constructor
  · rw [h.fst, walk_step hg he hb]; simp
  · rw [h.snd, walk_step hg he hb]
theorem Half.stop (h : Half l txn go skips last cur pre) (hg : go cur = false) : walk l txn go skips last = (pre, 0) := by
  have h1 := h.fst; have h2 := h.snd; rw [walk_stop hg] at h1 h2
  exact Prod.ext (by simpa using h1) h2
theorem Half.none (h : Half l txn go skips last cur pre) (hg : go cur = true) (he : entAt l cur = none) : walk l txn go skips last = (pre, 7) := by
  have h1 := h.fst; have h2 := h.snd; rw [walk_none hg he] at h1 h2
  exact Prod.ext (by simpa using h1) h2
theorem Half.bad (h : Half l txn go skips last cur pre) {r : Rec} (hg : go cur = true) (he : entAt l cur = some r) (hb : recBad txn cur r = true) : walk l txn go skips last = (pre, 1) := by
  have h1 := h.fst; have h2 := h.snd; rw [walk_bad hg he hb] at h1 h2
  exact Prod.ext (by simpa using h1) h2
theorem Half.len (h : Half l txn go skips last cur pre) {r : Rec} (hg : go cur = true) (he : entAt l cur = some r) (hb : recBad txn cur r = false) : pre.length < l.length := by
  have h1 := (h.step hg he hb).fst
  have h2 := walk_len' (l := l) (txn := txn) (go := go) (skips := skips) (p := last)
  rw [h1] at h2
  simp at h2
  omega
end

theorem orErr_form {α : Type} {l : List Ent} {x : List (Int × Rec) × Int} {f : List (Int × Rec) → List α} (h : risesB l = false) : orErr l x f = ([], 3) := by simp [orErr, h]
theorem orErr_err {α : Type} {l : List Ent} {x : List (Int × Rec) × Int} {f : List (Int × Rec) → List α} {pre : List (Int × Rec)} {e : Int} (h : risesB l = true) (hx : x = (pre, e)) (he : e ≠ 0) : orErr l x f = ([], e) := by subst hx; simp [orErr, h, he]
theorem orErr_ok {α : Type} {l : List Ent} {x : List (Int × Rec) × Int} {f : List (Int × Rec) → List α} {pre : List (Int × Rec)} (h : risesB l = true) (hx : x = (pre, 0)) : orErr l x f = (f pre, 0) := by subst hx; simp [orErr, h]

/-- A list of ints of one's own, and an error. -/
def IntsErr (w w' : World) (e : Ending) (x : List Int × Int) : Prop := ∃ v, e = .returned (.tuple #[v, .int .i64 x.2]) ∧ w'.ownsRow w.heap.size 3 1 v x.1.length (x.1.map (Value.int .i64)) ∧ Chg NoB w w'

theorem IntsErr.nil {w w' : World} {x : List Int × Int} {er : Int} (hx : x = ([], er)) (hc : Chg NoB w w') {e : Ending} (he : e = .returned (.tuple #[.slice none 0 0, .int .i64 er])) : IntsErr w w' e x := by
  subst hx; exact ⟨_, he, World.ownsRow_nil _ _ _ _, hc⟩

theorem IntsErr.ok {w w' : World} {x : List Int × Int} {pre : List (Int × Rec)} {v : Value} (hx : x = (pre.map (·.1), 0)) (ho : w'.ownsRow w.heap.size 3 1 v pre.length (pre.map (fun x => Value.int .i64 x.1))) (hc : Chg NoB w w') {e : Ending} (he : e = .returned (.tuple #[v, .int .i64 0])) : IntsErr w w' e x := by
  subst hx
  refine ⟨v, he, ?_, hc⟩
  simp only [List.length_map, List.map_map]
  exact ho

end Go.Proofs.Ytghklbflbodajaa
