import Derived.Test.YtlhblkpdfdpiaaaSl
import Derived.ChangeArms
import Derived.Deep.Slices
import Derived.DataReads
namespace Go.Proofs.Ytlhblkpdfdpiaaa
open Go.RowKit Go.ChangeMaps Go.MapKept
set_option linter.unusedVariables false
set_option linter.unusedSimpArgs false
set_option linter.unnecessarySimpa false

/-- What the form reads at type t is some y with R y cs. -/
def Opens {α : Type} (P : Program) (w : World) (t : TypeId) (R : α → List Value → Prop) : Prop :=
  ∀ {H : Type} (enc : TypeId × Value → H) (held : Bool) (fuel : Nat) (cs : List Value) (x : DataW H × List MemPlace), DataW.trod enc P w 0 (fun _ => true) held fuel t cs = some x → ∃ y, R y cs

/-- v is a slice whose elements, each of size cells, stand in relation R to l. -/
def RdR {α : Type} (w : World) (size : Nat) (R : α → List Value → Prop) (v : Value) (l : List α) : Prop :=
  ∃ a c, v = .slice a l.length c ∧ l.length ≤ c ∧ l.length ≤ maxLen ∧ (∀ i x, l[i]? = some x → ∃ cs b off, R x cs ∧ cs.length = size ∧ a = some ⟨b, off, none⟩ ∧ ∀ j u, cs[j]? = some u → w.cell? ⟨b, off + i * size + j, none⟩ = some u)

section
variable {P : Program} {w : World} {t e : TypeId}

theorem opens_int {k : IntKind} (ht : P.underlying t = some (.int k)) : Opens P w t (fun (n : Int) cs => cs = [.int k n] ∧ (Lit.int k n).wf = true) := by
  intro H enc held fuel cs x h
  obtain ⟨n, h1, _, h2⟩ := DataW.trod_int ht h
  exact ⟨n, h1, h2⟩

theorem opens_string (ht : P.underlying t = some .string) : Opens P w t (fun (s : ByteArray) cs => cs = [.string s] ∧ s.size ≤ maxLen) := by
  intro H enc held fuel cs x h
  obtain ⟨n, h1, _, h2⟩ := DataW.trod_string ht h
  exact ⟨n, h1, h2⟩

theorem cells_get {base : Nat} {a : Addr} {n : Nat} {cs : List Value} (h : w.cells? base a n = some cs) : cs.length = n ∧ ∀ j u, cs[j]? = some u → w.cell? (a.add j) = some u := by
  unfold World.cells? at h
  split at h
  · have hl := mapM_some_length h
    refine ⟨by simpa using hl, fun j u hu => ?_⟩
    have hj := (List.getElem?_eq_some_iff.1 hu).1
    have := mapM_some_get h j j (by rw [List.getElem?_range (by simp at hl; omega)])
    rw [this, hu]
  · cases h

theorem list_of {α : Type} {p : Nat → α → Prop} (n : Nat) (h : ∀ i, i < n → ∃ y, p i y) : ∃ l : List α, l.length = n ∧ ∀ i y, l[i]? = some y → p i y := by
  induction n with
  | zero => exact ⟨[], rfl, fun i y hi => by simp at hi⟩
  | succ n ih =>
    obtain ⟨l, hl, hp⟩ := ih fun i hi => h i (by omega)
    obtain ⟨y, hy⟩ := h n (by omega)
    refine ⟨l ++ [y], by simp [hl], fun i z hi => ?_⟩
    by_cases hin : i < n
    · rw [List.getElem?_append_left (by omega)] at hi
      exact hp i z hi
    · have hlt := (List.getElem?_eq_some_iff.1 hi).1
      simp [hl] at hlt
      obtain rfl : i = n := by omega
      rw [List.getElem?_append_right (by omega)] at hi
      simp [hl] at hi
      subst hi
      exact hy

theorem opens_slice {α : Type} {R : α → List Value → Prop} {size : Nat} (ht : P.underlying t = some (.slice e)) (hc : P.cellsOf e = size) (hpos : 0 < size) (he : Opens P w e R) :
    Opens P w t (fun (l : List α) cs => ∃ v, cs = [v] ∧ RdR w size R v l) := by
  intro H enc held fuel cs x h
  rcases Deep.open_slice ht h with ⟨rfl, _⟩ | ⟨a, len, cap, m, n, D, Pl, rfl, hb, hl, hm, hmm, _, hel⟩
  · exact ⟨[], _, rfl, none, 0, rfl, Nat.le_refl _, by simp, fun i x hi => by simp at hi⟩
  · have hmc : m = cap := hmm
    rw [hc] at hel
    obtain ⟨l, hll, hp⟩ := list_of (p := fun i y => ∃ cs', R y cs' ∧ w.cells? 0 (a.add (i * size)) size = some cs') len fun i hi => by
      obtain ⟨cs', h1, h2⟩ := hel i (by omega)
      obtain ⟨y, hy⟩ := he enc held n cs' _ h2
      exact ⟨y, cs', hy, h1⟩
    refine ⟨l, _, rfl, some a, cap, by rw [hll], by omega, by omega, fun i y hi => ?_⟩
    obtain ⟨cs', h1, h2⟩ := hp i y hi
    obtain ⟨h3, h4⟩ := cells_get h2
    have hsp : a.spot = none := by
      have hi0 : 0 < l.length := by have := (List.getElem?_eq_some_iff.1 hi).1; omega
      obtain ⟨cs0, _, g2⟩ := hp 0 _ (List.getElem?_eq_getElem hi0)
      obtain ⟨g3, g4⟩ := cells_get g2
      have g5 := g4 0 _ (List.getElem?_eq_getElem (by omega))
      have ea : (a.add (0 * size)).add 0 = a := by simp [Addr.add]
      rw [ea] at g5
      unfold World.cell? at g5
      split at g5
      · cases hs : a.spot with
        | none => rfl
        | some _ => simp [hs] at g5
      · cases g5
    refine ⟨cs', a.block, a.off, h1, h3, by cases a; simp at hsp; simp [hsp], fun j u hu => ?_⟩
    have h5 := h4 j u hu
    have ea : (a.add (i * size)).add j = ⟨a.block, a.off + i * size + j, none⟩ := by
      obtain ⟨ab, ao, asp⟩ := a
      simp at hsp
      subst hsp
      simp only [Addr.add]
      split <;> split <;> simp_all
    rwa [ea] at h5

/-- A field of a struct. -/
theorem fld {H : Type} {xs : List (DataW H × List MemPlace)} {m i : Nat} {r : Option (DataW H × List MemPlace)} (hx : xs.length = m) (hi : i < m) (h : r = xs[i]?) : ∃ y, r = some y := ⟨xs[i], by rw [h, List.getElem?_eq_getElem]⟩

theorem RdR.rd {α : Type} {size : Nat} {enc : α → List Value} {v : Value} {l : List α} (h : RdR w size (fun x cs => cs = enc x) v l) : Rd w size enc v l := by
  obtain ⟨a, c, h1, h2, h3, h4⟩ := h
  exact ⟨a, c, h1, h2, h3, fun i x hi => by obtain ⟨cs, b, off, rfl, _, ha, hc⟩ := h4 i x hi; exact ⟨b, off, ha, hc⟩⟩
end
end Go.Proofs.Ytlhblkpdfdpiaaa
