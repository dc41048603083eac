import Derived.Test.YtlhblkpdfdpiaaaWtSort
import Derived.Test.YtlhblkpdfdpiaaaRangeU
import Derived.Test.YtlhblkpdfdpiaaaOrd
import Derived.Test.YtlhblkpdfdpiaaaAppR
import Derived.Test.YtlhblkpdfdpiaaaCell
namespace Go.Proofs.Ytlhblkpdfdpiaaa.Wt
open Go.RowKit Go.ChangeMaps Go.MapKept
set_option linter.unusedVariables false
set_option linter.unusedSimpArgs false
set_option linter.unnecessarySimpa false
set_option maxHeartbeats 8000000

/-- The edges that lead from one, in their order; its next ones, rising. -/
def raw (e : Edges) (n : Int) : List Int := (e.filter fun x => x.1 == n).map (·.2)
def suc (e : Edges) (n : Int) : List Int := uset (raw e n)
theorem raw_snoc (e : Edges) (x : Int × Int) (n : Int) : raw (e ++ [x]) n = raw e n ++ (if x.1 == n then [x.2] else []) := by
  unfold raw
  rw [List.filter_append, List.map_append]
  cases h : x.1 == n <;> simp [List.filter_cons, h]
theorem suc_mem {e : Edges} {a b : Int} : b ∈ suc e a ↔ (a, b) ∈ e := by
  unfold suc raw
  rw [uset_mem, List.mem_map]
  constructor
  · rintro ⟨⟨x, y⟩, h1, rfl⟩
    rw [List.mem_filter] at h1
    have := h1.2
    simp at this
    subst this
    exact h1.1
  · intro h
    exact ⟨(a, b), List.mem_filter.2 ⟨h, by simp⟩, rfl⟩
theorem raw_len (e : Edges) (n : Int) : (raw e n).length ≤ e.length := by
  unfold raw
  rw [List.length_map]
  exact List.length_filter_le _ _
theorem nm_snoc {e : Edges} {x : Int × Int} {z : Int} : z ∈ nm (e ++ [x]) ↔ z ∈ nm e ∨ z = x.1 ∨ z = x.2 := by
  rw [nm_mem, nm_mem]
  constructor
  · rintro ⟨p, hp, h⟩
    rcases List.mem_append.1 hp with hp | hp
    · exact .inl ⟨p, hp, h⟩
    · obtain rfl := List.mem_singleton.1 hp; exact .inr h
  · rintro (⟨p, hp, h⟩ | h)
    · exact ⟨p, by simp [hp], h⟩
    · exact ⟨x, by simp, h⟩

/-- An edge's cells. -/
def encE (x : Int × Int) : List Value := [.int .i64 x.1, .int .i64 x.2]
theorem slInt : SlT Try.prog 24 3 (.int .i64 0) 1 8 := ⟨Try.underlying24, by kernel_rfl, rfl, by decide⟩
theorem zero_int (w : World) : (zeroValue 3).run Try.prog w = .ok (.int .i64 0) w := by kernel_rfl
theorem zero_ints (w : World) : (zeroValue 24).run Try.prog w = .ok (.slice none 0 0) w := by kernel_rfl

/-- A map of slices of one's own. -/
abbrev GV : Value → Value := fun v => v
structure GAt (w0 w : World) (r : Nat) (m : List (Int × Value)) (dn : Int → Bool) (e : Edges) : Prop where
  map : MapI w r GV m
  dom : ∀ z, z ∉ m.map (·.1) → raw e z = []
  row : ∀ p ∈ m, (dn p.1 = false → w.ownsRow w0.heap.size 3 1 p.2 (raw e p.1).length ((raw e p.1).map (Value.int .i64))) ∧ (dn p.1 = true → w.ownsRow w0.heap.size 3 1 p.2 (suc e p.1).length ((suc e p.1).map (Value.int .i64)))
  off : ∀ p ∈ m, ∀ b, OwnB p.2 b → b ≠ r
  sep : ∀ p ∈ m, ∀ q ∈ m, p.1 ≠ q.1 → ∀ b, OwnB p.2 b → ¬ OwnB q.2 b
  ge : w0.heap.size ≤ r
  chg : Chg NoB w0 w
theorem GAt.own {w0 w : World} {r : Nat} {m : List (Int × Value)} {dn : Int → Bool} {e : Edges} (h : GAt w0 w r m dn e) : ∀ p ∈ m, ∀ b, OwnB p.2 b → w0.heap.size ≤ b ∧ b < w.heap.size := by
  intro p hp b hb
  cases hd : dn p.1 with
  | false => exact OwnB.ge ((h.row p hp).1 hd) b hb
  | true => exact OwnB.ge ((h.row p hp).2 hd) b hb
theorem GAt.form {w0 w : World} {r : Nat} {m : List (Int × Value)} {dn : Int → Bool} {e : Edges} (h : GAt w0 w r m dn e) : ∀ p ∈ m, ∃ a n c, p.2 = .slice a n c := by
  intro p hp
  cases hd : dn p.1 with
  | false => obtain ⟨a, c, h2⟩ := ownsForm ((h.row p hp).1 hd); exact ⟨a, _, c, h2⟩
  | true => obtain ⟨a, c, h2⟩ := ownsForm ((h.row p hp).2 hd); exact ⟨a, _, c, h2⟩
theorem GAt.keep {w0 w w' : World} {r : Nat} {m : List (Int × Value)} {dn : Int → Bool} {e : Edges} (h : GAt w0 w r m dn e) (hc : Chg NoB w w') : GAt w0 w' r m dn e :=
  ⟨h.map.chg hc nob, h.dom, fun p hp => ⟨fun hd => ownsRow.chg ((h.row p hp).1 hd) hc (fun _ _ => nob), fun hd => ownsRow.chg ((h.row p hp).2 hd) hc (fun _ _ => nob)⟩, h.off, h.sep, h.ge, h.chg.trans' hc⟩
theorem mget_cases {ν : Type} (m : List (Int × ν)) (a : Int) : (mget m a = none ∧ a ∉ m.map (·.1)) ∨ ∃ v, mget m a = some v ∧ (a, v) ∈ m := by
  unfold mget
  cases hf : m.find? (fun p => p.1 == a) with
  | none =>
    left
    refine ⟨rfl, fun hm => ?_⟩
    obtain ⟨p, hp, he⟩ := List.mem_map.1 hm
    rw [List.find?_eq_none] at hf
    exact hf p hp (by simpa using he)
  | some p =>
    right
    obtain ⟨x, v⟩ := p
    have h1 := List.mem_of_find?_eq_some hf
    have h2 := List.find?_some hf
    simp at h2
    subst h2
    exact ⟨v, rfl, h1⟩

theorem mput_mem {ν : Type} {m : List (Int × ν)} {k : Int} {v : ν} (p : Int × ν) (h : p ∈ mput m k v) : p = (k, v) ∨ (p ∈ m ∧ p.1 ≠ k) := by
  unfold mput at h
  split at h
  · obtain ⟨q, hq, rfl⟩ := List.mem_map.1 h
    split
    · exact .inl rfl
    · rename_i hne; exact .inr ⟨hq, by simpa using hne⟩
  · rename_i ha
    rcases List.mem_append.1 h with h | h
    · refine .inr ⟨h, fun he => ha ?_⟩
      rw [List.any_eq_true]
      exact ⟨p, h, by simpa using he⟩
    · exact .inl (List.mem_singleton.1 h)
theorem mput_key {ν : Type} {m : List (Int × ν)} {k : Int} {v : ν} (z : Int) : z ∈ (mput m k v).map (·.1) ↔ z ∈ m.map (·.1) ∨ z = k := by
  unfold mput
  split
  · rename_i ha
    rw [List.any_eq_true] at ha
    obtain ⟨q, hq, he⟩ := ha
    have he : q.1 = k := by simpa using he
    have : (m.map fun p => if p.1 == k then (k, v) else p).map (·.1) = m.map (·.1) := by
      rw [List.map_map]
      refine List.map_congr_left fun p _ => ?_
      simp only [Function.comp_def]
      split
      · rename_i h; simp at h; exact h.symm
      · rfl
    rw [this]
    constructor
    · exact .inl
    · rintro (h | rfl)
      · exact h
      · exact List.mem_map.2 ⟨q, hq, he⟩
  · simp

/-- The value at a key is turned. -/
theorem GAt.upd {w0 w w6 : World} {r : Nat} {m : List (Int × Value)} {dn dn' : Int → Bool} {e e' : Edges} (h : GAt w0 w r m dn e) {a : Int} {v v' : Value} (hv : (mget m a).getD (.slice none 0 0) = v) {S : Nat → Prop}
    (hc : Chg S w w6) (hS : ∀ k, S k → k = r ∨ OwnB v k) (hn : ∀ i, OwnB v' i → OwnB v i ∨ w.heap.size ≤ i) (hm : MapI w6 r GV (mput m a v'))
    (hr : (dn' a = false → w6.ownsRow w0.heap.size 3 1 v' (raw e' a).length ((raw e' a).map (Value.int .i64))) ∧ (dn' a = true → w6.ownsRow w0.heap.size 3 1 v' (suc e' a).length ((suc e' a).map (Value.int .i64))))
    (hd : ∀ z, z ≠ a → dn' z = dn z ∧ raw e' z = raw e z) (hdom : ∀ z, z ∉ (mput m a v').map (·.1) → raw e' z = []) : GAt w0 w6 r (mput m a v') dn' e' := by
  have hvo : ∀ q ∈ m, q.1 ≠ a → ∀ b, OwnB v b → ¬ OwnB q.2 b := by
    intro q hq hne b hb
    rcases mget_cases m a with ⟨h1, _⟩ | ⟨u, h1, h2⟩
    · rw [h1] at hv
      rw [← hv] at hb
      simp [OwnB, Value.ownBlock] at hb
    · rw [h1] at hv
      have hv : u = v := hv
      subst hv
      exact h.sep _ h2 q hq (fun e => hne e.symm) b hb
  have hvr : ∀ b, OwnB v b → b ≠ r ∧ w0.heap.size ≤ b := by
    intro b hb
    rcases mget_cases m a with ⟨h1, _⟩ | ⟨u, h1, h2⟩
    · rw [h1] at hv
      rw [← hv] at hb
      simp [OwnB, Value.ownBlock] at hb
    · rw [h1] at hv
      have hv : u = v := hv
      subst hv
      exact ⟨h.off _ h2 b hb, (h.own _ h2 b hb).1⟩
  have hrl := h.map.lt
  refine ⟨hm, hdom, fun p hp => ?_, fun p hp b hb => ?_, fun p hp q hq hne b hb hb2 => ?_, h.ge, h.chg.trans hc (fun k hk => .inr ?_)⟩
  · rcases mput_mem p hp with rfl | ⟨h1, h2⟩
    · exact hr
    · obtain ⟨d1, d2⟩ := hd p.1 h2
      have hoff : ∀ k, OwnB p.2 k → ¬ S k := fun k hk hs => by
        rcases hS k hs with rfl | h3
        · exact h.off p h1 k hk rfl
        · exact hvo p h1 h2 k h3 hk
      rw [d1, show suc e' p.1 = suc e p.1 from by unfold suc; rw [d2], d2]
      exact ⟨fun hx => ownsRow.chg ((h.row p h1).1 hx) hc hoff, fun hx => ownsRow.chg ((h.row p h1).2 hx) hc hoff⟩
  · rcases mput_mem p hp with rfl | ⟨h1, h2⟩
    · rcases hn b hb with h3 | h3
      · exact (hvr b h3).1
      · omega
    · exact h.off p h1 b hb
  · rcases mput_mem p hp with rfl | ⟨h1, h2⟩ <;> rcases mput_mem q hq with rfl | ⟨h3, h4⟩
    · exact hne rfl
    · rcases hn b hb with h5 | h5
      · exact hvo q h3 h4 b h5 hb2
      · have := (h.own q h3 b hb2).2; omega
    · rcases hn b hb2 with h5 | h5
      · exact hvo p h1 h2 b h5 hb
      · have := (h.own p h1 b hb).2; omega
    · exact h.sep p h1 q h3 hne b hb hb2
  · rcases hS k hk with rfl | h3
    · exact h.ge
    · exact (hvr k h3).2
end Go.Proofs.Ytlhblkpdfdpiaaa.Wt
