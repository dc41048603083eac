import Derived.Test.YtobmaipjbepphaaRec
namespace Go.Proofs.Ytobmaipjbepphaa
open Go.RowKit Go.ChangeMaps
set_option linter.unusedVariables false

/-- The cells of element k, in a later world. -/
theorem Ents.cells {w wr : World} {a : Option Addr} {l : List Ent} (h : ∀ i x, l[i]? = some x → ∃ cs b off, EntAt w x cs ∧ cs.length = 12 ∧ a = some ⟨b, off, none⟩ ∧ ∀ j u, cs[j]? = some u → w.cell? ⟨b, off + i * 12 + j, none⟩ = some u)
    (hc : Chg NoB w wr) (k : Nat) (hk : k < l.length) : ∃ x b off v1 v2, Hid (l[k] = x) ∧ a = some ⟨b, off, none⟩ ∧ Tabs w x.r v1 v2 ∧ Hid (x.r.ok ∧ fits x.at_) ∧
      wr.cell? ⟨b, off + k * 12, none⟩ = some (.int .i64 x.at_) ∧
      wr.cell? ⟨b, off + k * 12 + 1, none⟩ = some (.int .i64 x.r.kind) ∧
      wr.cell? ⟨b, off + k * 12 + 2, none⟩ = some (.int .i64 x.r.txn) ∧
      wr.cell? ⟨b, off + k * 12 + 3, none⟩ = some (.int .i64 x.r.page) ∧
      wr.cell? ⟨b, off + k * 12 + 4, none⟩ = some (.int .i64 x.r.off) ∧
      wr.cell? ⟨b, off + k * 12 + 5, none⟩ = some (.int .i64 x.r.prev) ∧
      wr.cell? ⟨b, off + k * 12 + 6, none⟩ = some (.int .i64 x.r.next) ∧
      wr.cell? ⟨b, off + k * 12 + 7, none⟩ = some (.int .i64 x.r.beg) ∧
      wr.cell? ⟨b, off + k * 12 + 8, none⟩ = some (.string x.r.before) ∧
      wr.cell? ⟨b, off + k * 12 + 9, none⟩ = some (.string x.r.after) ∧
      wr.cell? ⟨b, off + k * 12 + 10, none⟩ = some v1 ∧
      wr.cell? ⟨b, off + k * 12 + 11, none⟩ = some v2 := by
  obtain ⟨cs, b, off, ⟨v1, v2, rfl, ht, hok⟩, _, ha, h2⟩ := h k _ (List.getElem?_eq_getElem hk)
  have g : ∀ j u, (Value.int .i64 l[k].at_ :: l[k].r.cs v1 v2)[j]? = some u → wr.cell? ⟨b, off + k * 12 + j, none⟩ = some u := fun j u hu => hc.cell (h2 j u hu) (fun e => e)
  exact ⟨l[k], b, off, v1, v2, rfl, ha, ht, hok, g 0 _ rfl, g 1 _ rfl, g 2 _ rfl, g 3 _ rfl, g 4 _ rfl, g 5 _ rfl, g 6 _ rfl, g 7 _ rfl, g 8 _ rfl, g 9 _ rfl, g 10 _ rfl, g 11 _ rfl⟩

def Rec.few (r : Rec) : Bool := decide (r.before.size ≤ 300) && (decide (r.after.size ≤ 300) && (decide (r.txns.length ≤ 50) && decide (r.pages.length ≤ 50)))

set_option maxRecDepth 100000 in
theorem recFew (r : Rec) (v1 v2 : Value) (w : World) (ht : Tabs w r v1 v2) (res : Bool) (hres : Hid (res = r.few)) :
    Calls Try.prog 15 #[r.val v1 v2] w fun e w' => e = .returned (.bool res) ∧ Chg NoB w w' := by
  obtain ⟨⟨a1, c1, rfl, _, _, _⟩, ⟨a2, c2, rfl, _, _, _⟩⟩ := ht
  unfold Rec.val
  obtain ⟨n1, h1⟩ := named r.before.size
  obtain ⟨n2, h2⟩ := named r.after.size
  go_enter Try.func15, Try.ntmps15
  go_wp2
  all_goals go_ret
  all_goals exact ⟨ret_bool (by rw [hres.out]; simp only [Rec.few]; rw [Bool.eq_iff_iff]; simp; omega), (Chg.refl _ _).alloc _⟩

def entsFew (l : List Ent) : Bool := l.all (fun x => x.r.few) && decide (l.length ≤ 200)

set_option maxRecDepth 100000 in
theorem entsFew_calls (v : Value) (l : List Ent) (w : World) (hv : Ents w v l) (res : Bool) (hres : Hid (res = entsFew l)) :
    Calls Try.prog 7 #[v] w fun e w' => e = .returned (.bool res) ∧ Chg NoB w w' := by
  obtain ⟨a, c, rfl, h1, h2, h3⟩ := hv
  unfold maxLen at h2
  go_enter Try.func7, Try.ntmps7
  go_wp2
  go_loopw [3] (fun i wr => ∃ k : Nat, k ≤ l.length ∧ i = .int .i64 k ∧ Hid (∀ j (hj : j < k) (h : j < l.length), l[j].r.few = true) ∧ Chg NoB w wr) (fun i _ => l.length - (intOf i).toNat)
  case atStart => exact ⟨0, by omega, rfl, hid (fun j h => by omega), Chg.refl _ _⟩
  case round =>
    obtain ⟨k, hk, rfl, HE, hc⟩ := hrel
    by_cases hlt : k < l.length
    · obtain ⟨x, b, off, v1, v2, hx, rfl, ht, _, g0, g1, g2, g3, g4, g5, g6, g7, g8, g9, g10, g11⟩ := Ents.cells h3 hc k hlt
      have HA := hid h3
      clear h3
      obtain ⟨f, hf⟩ := named x.r.few
      cases f
      · go_wp2_with (go_at_call 15; refine (recFew _ _ _ _ (ht.mono hc) _ hf).mono ?_; rintro e w' ⟨rfl, hc'⟩)
        go_ret
        refine ⟨ret_bool ?_, hc.trans' hc'⟩
        rw [hres.out]
        symm
        simp only [entsFew, Bool.and_eq_false_iff]
        left
        rw [List.all_eq_false]
        exact ⟨l[k], List.getElem_mem hlt, by rw [hx.out, ← hf.out]; simp⟩
      · go_wp2_with (go_at_call 15; refine (recFew _ _ _ _ (ht.mono hc) _ hf).mono ?_; rintro e w' ⟨rfl, hc'⟩)
        go_roundw
        case rel =>
          refine ⟨k + 1, by omega, by go_num, hid (fun j hj h => ?_), hc.trans' hc'⟩
          by_cases hjk : j < k
          · exact HE.out j hjk h
          · obtain rfl : j = k := by omega
            rw [hx.out, ← hf.out]
        case measure => simp [intOf]; omega
    · obtain rfl : k = l.length := by omega
      have hall : l.all (fun x => x.r.few) = true := by
        rw [List.all_eq_true]
        intro x hx
        obtain ⟨i, hi, rfl⟩ := List.getElem_of_mem hx
        exact HE.out i hi hi
      have HALL := hid hall
      clear hall
      go_wp2
      go_ret
      exact ⟨ret_bool (by rw [hres.out]; simp only [entsFew, HALL.out, Bool.true_and]; first | rfl | (simp; omega)), hc⟩

def risesB : List Ent → Bool
  | [] => true
  | [_] => true
  | x :: y :: l => decide (x.at_ < y.at_) && risesB (y :: l)

theorem risesB_iff {l : List Ent} : risesB l = true ↔ ∀ i (h : i + 1 < l.length), l[i].at_ < l[i + 1].at_ := by
  induction l with
  | nil => simp [risesB]
  | cons x l ih =>
    cases l with
    | nil => simp [risesB]
    | cons y l =>
      simp only [risesB, Bool.and_eq_true, decide_eq_true_eq, ih]
      constructor
      · rintro ⟨h1, h2⟩ i hi
        cases i with
        | zero => exact h1
        | succ i => exact h2 i (by simpa using hi)
      · intro h
        exact ⟨h 0 (by simp), fun i hi => h (i + 1) (by simpa using hi)⟩

end Go.Proofs.Ytobmaipjbepphaa
