import Derived.Test.YtipmchdogdemjaaAnPut
import Derived.Test.YtipmchdogdemjaaWalkAnalysisOver
namespace Go.Proofs.Ytipmchdogdemjaa
open Go.RowKit Go.ChangeMaps Go.MapKept
set_option linter.unusedVariables false

theorem u64_nonneg (x : Int) : 0 ≤ IntKind.u64.wrap x := by
  simp [IntKind.wrap, IntKind.signed, IntKind.bits]
  omega
theorem w64_small (y : Int) (h1 : -9223372036854775808 ≤ y) (h2 : y ≤ 9223372036854775807) : wrap64 y = y := by
  rw [← IntWalk.i64_left, IntKind.wrap_i64]; omega
theorem u64_small (y : Int) (h1 : 0 ≤ y) (h2 : y ≤ 9223372036854775807) : IntKind.u64.wrap y = y := by
  simp [IntKind.wrap, IntKind.signed, IntKind.bits]; omega

theorem OwnE.oks {F : Nat → Prop} {w : World} {base : Nat} {v : Value} {L : List Ent} (h : OwnE F w base v L) : ∀ x ∈ L, x.r.ok ∧ fits x.at_ := by
  obtain ⟨xs, rfl, h2, _⟩ := h
  intro x hx
  obtain ⟨p, hp, rfl⟩ := List.mem_map.1 hx
  exact ⟨(h2 p hp).ok, (h2 p hp).fit⟩
theorem rows_fit {s : AT} {a : Int} (hb : Bd s a) (hf : AFit s) : ∀ x ∈ aRows s, fits x.1 := by
  intro x hx
  unfold aRows at hx
  obtain ⟨n, hn, rfl⟩ := List.mem_map.1 hx
  have hk := sortI_mem.1 hn
  rw [rows_key hb hk]
  obtain ⟨p, hp, rfl⟩ := List.mem_map.1 hk
  exact hf.1 p hp
theorem pages_fit {s : AT} (hf : AFit s) : ∀ x ∈ aPages s, fits x.1 := by
  intro x hx
  unfold aPages at hx
  obtain ⟨n, hn, rfl⟩ := List.mem_map.1 hx
  obtain ⟨p, hp, e⟩ := List.mem_map.1 (sortI_mem.1 hn)
  dsimp only
  rw [← e]
  exact hf.2 p hp
theorem entsW_snoc (L : List Rec) (r : Rec) : entsW (posn (L ++ [r])) = entsW (posn L) + (1 + r.txns.length + r.pages.length) := by
  rw [posn_snoc]; simp [entsW]
theorem aRows_len (s : AT) : (aRows s).length = s.T.length := by unfold aRows; rw [List.length_map, sortI_len, List.length_map]

/-- How far it is: k rounds, and where in the round: 0 at its head, 1 behind the beginning, 2 behind the end. -/
def PhAt (M E k st : Nat) (L : List Rec) (c : Int) : Prop :=
  (k + (if 0 < st then 1 else 0) ≤ M → Ph0 L) ∧ (M < k + (if 0 < st then 1 else 0) → k + (if 1 < st then 1 else 0) ≤ E → Ph1 L c) ∧ (E < k + (if 1 < st then 1 else 0) → Ph2 L c) ∧
    L.length ≤ 3 * k + st ∧ entsW (posn L) ≤ 101 * L.length + (if E < k + (if 1 < st then 1 else 0) then 100000 else 0)

theorem PhAt.start (M E : Nat) : PhAt M E 0 0 [] 0 := ⟨fun _ => Ph0.nil, fun h => by simp at h, fun h => by simp at h, by simp, by simp [entsW, posn]⟩
theorem PhAt.noB {M E k : Nat} {L : List Rec} {c : Int} (h : PhAt M E k 0 L c) (hk : k ≠ M) : PhAt M E k 1 L c := by
  obtain ⟨h1, h2, h3, h4, h5⟩ := h
  simp only [Nat.lt_irrefl, if_false, Nat.add_zero, Nat.not_lt_zero] at h1 h2 h3 h5
  refine ⟨fun e => h1 (by simp at e; omega), fun e e2 => h2 (by simp at e; omega) (by simpa using e2), fun e => h3 (by simpa using e), by omega, ?_⟩
  simpa using h5
theorem PhAt.atB {M E k : Nat} {L : List Rec} {c : Int} (h : PhAt M E k 0 L c) (hk : k = M) (hME : M ≤ E) : PhAt M E k 1 (L ++ [rBegin]) (pos L.length) := by
  obtain ⟨h1, h2, h3, h4, h5⟩ := h
  simp only [Nat.lt_irrefl, if_false, Nat.add_zero, Nat.not_lt_zero] at h1 h2 h3 h5
  subst hk
  refine ⟨fun e => by simp at e; omega, fun _ _ => (h1 (Nat.le_refl _)).begin, fun e => by simp at e; omega, by simp; omega, ?_⟩
  rw [entsW_snoc]
  rw [if_neg (by omega)] at h5
  simp [rBegin]; omega
theorem PhAt.noE {M E k : Nat} {L : List Rec} {c : Int} (h : PhAt M E k 1 L c) (hk : k ≠ E) : PhAt M E k 2 L c := by
  obtain ⟨h1, h2, h3, h4, h5⟩ := h
  simp only [Nat.lt_irrefl, if_false, Nat.add_zero, Nat.zero_lt_one, if_true] at h1 h2 h3 h5
  refine ⟨fun e => h1 (by simpa using e), fun e e2 => h2 (by simpa using e) (by simp at e2; omega), fun e => h3 (by simp at e; omega), by omega, ?_⟩
  by_cases hE : E < k
  · rw [if_pos hE] at h5; simp; rw [if_pos (by omega)]; exact h5
  · rw [if_neg hE] at h5; simp; rw [if_neg (by omega)]; exact h5
theorem PhAt.ph1 {M E k : Nat} {L : List Rec} {c : Int} (h : PhAt M E k 1 L c) (hk : k = E) (hME : M ≤ E) : Ph1 L c ∧ entsW (posn L) ≤ 101 * L.length := by
  obtain ⟨h1, h2, h3, h4, h5⟩ := h
  simp only [Nat.lt_irrefl, if_false, Nat.add_zero, Nat.zero_lt_one, if_true] at h1 h2 h3 h5
  rw [if_neg (by omega)] at h5
  exact ⟨h2 (by omega) (by omega), h5⟩
theorem PhAt.atE {M E k : Nat} {L : List Rec} {c : Int} (h : PhAt M E k 1 L c) (hk : k = E) (hME : M ≤ E) (h60 : k ≤ 60) : PhAt M E k 2 (L ++ [rTabs c (aRows (aFold 0 (posn L))) (aPages (aFold 0 (posn L)))]) c := by
  have hp := h.ph1 hk hME
  obtain ⟨h1, h2, h3, h4, h5⟩ := h
  refine ⟨fun e => by simp at e; omega, fun _ e => by simp at e; omega, fun _ => hp.1.tabs, by simp; omega, ?_⟩
  rw [entsW_snoc]
  have hl := aFold_len 0 (posn L) ⟨[], []⟩
  have e1 : ((rTabs c (aRows (aFold 0 (posn L))) (aPages (aFold 0 (posn L)))).txns).length ≤ entsW (posn L) := by
    show (aRows (aFold 0 (posn L))).length ≤ _
    rw [aRows_len]; have := hl.1; simp at this; unfold aFold; omega
  have e2 : ((rTabs c (aRows (aFold 0 (posn L))) (aPages (aFold 0 (posn L)))).pages).length ≤ entsW (posn L) := by
    show (aPages (aFold 0 (posn L))).length ≤ _
    rw [aPages_len]; have := hl.2; simp at this; unfold aFold; omega
  rw [if_pos (by simp; omega)]
  have := hp.2
  simp only [List.length_append, List.length_singleton]
  omega
theorem PhAt.own {M E k : Nat} {L : List Rec} {c : Int} (h : PhAt M E k 2 L c) {r : Rec} (hr : inC r) (hw : r.txns.length ≤ 50 ∧ r.pages.length ≤ 50) : PhAt M E (k + 1) 0 (L ++ [r]) c := by
  obtain ⟨h1, h2, h3, h4, h5⟩ := h
  simp only [Nat.lt_irrefl, if_false, Nat.add_zero, Nat.zero_lt_two, Nat.one_lt_two, if_true] at h1 h2 h3 h5
  refine ⟨fun e => (h1 (by simpa using e)).own hr, fun e e2 => (h2 (by simpa using e) (by simpa using e2)).own hr, fun e => (h3 (by simpa using e)).own hr, by simp; omega, ?_⟩
  rw [entsW_snoc]
  simp only [Nat.lt_irrefl, if_false, Nat.add_zero, Nat.not_lt_zero, List.length_append, List.length_singleton]
  omega
theorem PhAt.last {M E k : Nat} {L : List Rec} {c : Int} (h : PhAt M E k 2 L c) (hM : M ≤ k) (hE : E ≤ k) : Ph2 L c ∧ L.length ≤ 3 * k + 2 ∧ entsW (posn L) ≤ 101 * L.length + 100000 := by
  obtain ⟨h1, h2, h3, h4, h5⟩ := h
  simp only [Nat.zero_lt_two, Nat.one_lt_two, if_true] at h1 h2 h3 h5
  rw [if_pos (by omega)] at h5
  exact ⟨h3 (by omega), h4, h5⟩
theorem PhAt.le {M E k st : Nat} {L : List Rec} {c : Int} (h : PhAt M E k st L c) : L.length ≤ 3 * k + st := h.2.2.2.1
end Go.Proofs.Ytipmchdogdemjaa
