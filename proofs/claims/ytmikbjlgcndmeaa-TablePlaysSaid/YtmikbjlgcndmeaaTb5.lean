import Derived.Test.YtmikbjlgcndmeaaTb4
namespace Go.Proofs.Ytmikbjlgcndmeaa
open Go.RowKit Go.ChangeMaps Go.MapKept
set_option linter.unusedVariables false
set_option linter.unusedSimpArgs false
set_option linter.unnecessarySimpa false

def lsum : List Int → Int
  | [] => 0
  | x :: l => x + lsum l
theorem lsum_perm {a b : List Int} (h : a.Perm b) : lsum a = lsum b := by
  induction h with
  | nil => rfl
  | cons x _ ih => simp [lsum, ih]
  | swap x y l => simp [lsum]; omega
  | trans _ _ h1 h2 => exact h1.trans h2
theorem lsum_nonneg {l : List Int} (h : ∀ x ∈ l, 0 ≤ x) : 0 ≤ lsum l := by
  induction l with
  | nil => exact Int.le_refl _
  | cons x l ih =>
    have h1 := h x (by simp)
    have h2 := ih fun y hy => h y (by simp [hy])
    simp only [lsum]; omega
theorem lsum_le {l : List Int} {c : Int} (h : ∀ x ∈ l, x ≤ c) : lsum l ≤ c * l.length := by
  induction l with
  | nil => simp [lsum]
  | cons x l ih =>
    have h1 := h x (by simp)
    have h2 := ih fun y hy => h y (by simp [hy])
    simp only [lsum, List.length_cons]
    rw [show c * ((l.length + 1 : Nat) : Int) = c * l.length + c by rw [Int.natCast_add, Int.mul_add]; simp]
    omega

/-- What one may still need. -/
def needOf (E : List TxE) (x : Int × Nat) : Int := (mget (E.map fun e => (e.s.txn, 1 + e.s.left)) x.1).getD 0
def tNeed' (T : TTab) : Int := lsum (T.map fun s => 1 + s.left)

theorem needOf_of {E : List TxE} (hn : (E.map (fun e => e.s.txn)).Nodup) {e : TxE} (he : e ∈ E) : needOf E (e.s.txn, e.b) = 1 + e.s.left := by
  obtain ⟨j, hj⟩ := List.getElem?_of_mem he
  have h1 : (E.map fun e => (e.s.txn, 1 + e.s.left))[j]? = some (e.s.txn, 1 + e.s.left) := by simp [hj]
  unfold needOf
  rw [mget_of (by simpa [List.map_map, Function.comp_def] using hn) h1]
  rfl
theorem need_all {E : List TxE} (hn : (E.map (fun e => e.s.txn)).Nodup) : lsum ((E.map fun e => (e.s.txn, e.b)).map (needOf E)) = tNeed' (E.map (·.s)) := by
  unfold tNeed'
  rw [List.map_map, List.map_map]
  congr 1
  exact List.map_congr_left fun e he => needOf_of hn he

set_option maxRecDepth 100000 in
theorem tabNeed (p r : Nat) (E : List TxE) (w : World) (h : TabAt w p r E) (res : Int) (hres : Hid (res = tNeed' (E.map (·.s)))) :
    Calls Try.prog 27 #[.pointer (some ⟨p, 0, none⟩)] w fun e w' => e = .returned (.int .i64 res) ∧ Chg NoB w w' := by
  have HH := hid h
  have x0 : w.cell? ⟨p, 0, none⟩ = some (.map (some r)) := by rw [cell_blk h.tab]; rfl
  have hm := hid h.map
  obtain ⟨m, hmm⟩ : ∃ m, Hid (m = E.map fun e => (e.s.txn, e.b)) := named _
  rw [← hmm.out] at hm
  have htot : Hid (lsum (m.map (needOf E)) = res) := by rw [hmm.out, hres.out]; exact need_all h.nodup
  have hone : Hid (∀ x ∈ m, ∃ e ∈ E, e.b = x.2 ∧ needOf E x = 1 + e.s.left) := by
    intro x hx
    rw [hmm.out] at hx
    obtain ⟨e, he, rfl⟩ := List.mem_map.1 hx
    exact ⟨e, he, rfl, needOf_of h.nodup he⟩
  have hnn : Hid (∀ x ∈ m, 0 ≤ needOf E x ∧ needOf E x ≤ 1048577) := by
    intro x hx
    obtain ⟨e, he, _, h2⟩ := hone.out x hx
    have := h.fit e he
    omega
  have hml : m.length ≤ 4 := by rw [hmm.out]; simpa using h.few
  have hbig : Hid (res ≤ 1048577 * 4) := by
    rw [← htot.out]
    have := lsum_le (l := m.map (needOf E)) (c := 1048577) (fun x hx => by obtain ⟨y, hy, rfl⟩ := List.mem_map.1 hx; exact (hnn.out y hy).2)
    simp at this
    unfold Hid
    omega
  clear h
  go_enter Try.func27, Try.ntmps27
  go_wp2_with (at_range; refine step_range hm.out rfl _ 60 3 63 rfl Try.underlying60 rfl ?_; intro w1 hr hg hs)
  go_frame
  clear x0
  go_loopg [2] m.length (fun k v wr => ∃ todo n, todo.length ≤ k ∧ RangeI wr w.heap.size r (fun b : Nat => Value.pointer (some ⟨b, 0, none⟩)) m todo ∧ Hid (Chg NoB w wr) ∧ v = .int .i64 n ∧ Hid (n + lsum (todo.map (needOf E)) = res) ∧ Hid (0 ≤ n))
  case atStart => exact ⟨m, 0, Nat.le_refl _, hr, hg, rfl, by unfold Hid; have := htot.out; omega, Int.le_refl _⟩
  case round =>
    clear hr hg hs
    obtain ⟨todo, n, hk, hr, hg, rfl, hsum, hn0⟩ := hrel
    go_wp2_with (at_next; refine step_next hr rfl _ rfl rfl ?_ ?_)
    · intro h0
      go_wp2
      go_ret
      subst h0
      exact ⟨ret_int (by have := hsum.out; simp [lsum] at this; exact this), hg.out⟩
    · intro x v todo' w2 hmem hp hsub hr2 hg2 hs2 hen
      have hl2 : todo'.length < gk := by have := hp.length_eq; simp at this; omega
      have hg3 := hid (hg.out.trans hg2 fun i hi => .inr (by cases hi; exact Nat.le_refl _))
      obtain ⟨e, he, hb, hle⟩ := hone.out _ hmem
      have hcell : w2.cell? ⟨v, 3, none⟩ = some (.int .i64 e.s.left) := by
        have := hg3.out.cell (TxE.cells (HH.out.blk e he).1).2.2.2.1 (fun e => e)
        rw [hb] at this
        exact this
      have hsum2 : Hid (n + (1 + e.s.left) + lsum (todo'.map (needOf E)) = res) := by
        have h1 := lsum_perm (hp.map (needOf E))
        simp only [List.map_cons, lsum, hle] at h1
        have := hsum.out
        unfold Hid
        omega
      have hnn2 : 0 ≤ lsum (todo'.map (needOf E)) := lsum_nonneg fun y hy => by
        obtain ⟨z, hz, rfl⟩ := List.mem_map.1 hy
        exact (hnn.out z (hsub.subset hz)).1
      have hf := HH.out.fit e he
      have hres1 := hbig.out
      have hs3 := hsum2.out
      have hn3 := hn0.out
      have b1 : 0 ≤ e.s.left := hf.2.2.1
      have b2 : e.s.left ≤ 1048576 := hf.2.2.2.1
      have b3 : n ≤ 1048577 * 4 := by omega
      clear hr hg hg2 hf he hb hle hs3 hnn2
      go_wp2
      go_roundg todo'.length
      case measure => exact hl2
      case rel => exact ⟨todo', n + (1 + e.s.left), Nat.le_refl _, hr2, hg3.out, by go_num, hsum2, by unfold Hid; omega⟩
end Go.Proofs.Ytmikbjlgcndmeaa
