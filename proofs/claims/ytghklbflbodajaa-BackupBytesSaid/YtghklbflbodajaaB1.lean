import Derived.Test.YtghklbflbodajaaA3
import Derived.Laws.MakeOwn
import Derived.Laws.CopyRow
namespace Go.Proofs.Ytghklbflbodajaa
open Go.RowKit Go.ChangeMaps Go.MapKept
set_option linter.unusedVariables false
set_option linter.unusedSimpArgs false
set_option linter.unnecessarySimpa false
set_option maxHeartbeats 8000000

/-- A copy of a page. -/
structure Tk where
  has : Bool
  p : Pg
  at_ : Int
def encTk (x : Tk) : List Value := [.bool x.has, .int .i64 x.p.at_, .string x.p.data, .int .i64 x.at_]
def tksC (l : List Tk) : List Value := l.flatMap encTk
def Tk.blank : Tk := ⟨false, ⟨0, ⟨#[]⟩⟩, 0⟩
def bkNew (n : Nat) : List Tk := List.replicate n Tk.blank
/-- What every backup keeps. -/
def tkOk (L : List Tk) : Prop := ∀ x ∈ L, (x.has = true → x.p.right = true ∧ 0 ≤ x.at_ ∧ x.at_ ≤ 2147483647) ∧ (x.has = false → x = Tk.blank) ∧ x.p.data.size ≤ 220
def bkTake (L : List Tk) (n : Int) (p : Pg) (a : Int) : List Tk × Int :=
  if n < 0 ∨ (L.length : Int) ≤ n then (L, 2) else if p.right = false then (L, 3) else if a < 0 ∨ 2147483647 < a then (L, 1) else (L.set n.toNat ⟨true, p, a⟩, 0)
def bkWhole (L : List Tk) : Bool := L.all (·.has)
def bkLeast (L : List Tk) : Int := L.foldl (fun m x => if x.has && (decide (m < 0) || decide (x.at_ < m)) then x.at_ else m) (-1)
def bkFrom (L : List Tk) : Int := max (bkLeast L) 0

theorem tksC_len (l : List Tk) : (tksC l).length = l.length * 4 := by
  induction l with
  | nil => rfl
  | cons x l ih => simp only [tksC, encTk, List.flatMap_cons, List.length_append, List.length_cons, List.length_nil] at *; omega
theorem tksC_set (l : List Tk) (k : Nat) (p : Tk) (hk : k < l.length) : (tksC l).take (k * 4) ++ encTk p ++ (tksC l).drop (k * 4 + 4) = tksC (l.set k p) := by
  induction l generalizing k with
  | nil => simp at hk
  | cons x l ih =>
    cases k with
    | zero => simp [tksC, encTk]
    | succ k =>
      have e : (k + 1) * 4 = k * 4 + 4 := by omega
      have := ih k (by simpa using hk)
      rw [e]
      simp only [tksC, encTk, List.flatMap_cons, List.set_cons_succ] at *
      simp [this]
theorem tksC_get (l : List Tk) (k : Nat) (hk : k < l.length) (j : Nat) (u : Value) (hu : (encTk l[k])[j]? = some u) : (tksC l)[k * 4 + j]? = some u := by
  induction l generalizing k with
  | nil => simp at hk
  | cons x l ih =>
    have hj : j < 4 := (List.getElem?_eq_some_iff.1 hu).1
    cases k with
    | zero =>
      simp only [tksC, List.flatMap_cons, Nat.zero_mul, Nat.zero_add]
      rw [List.getElem?_append_left (by simpa [encTk] using hj)]
      exact hu
    | succ k =>
      have := ih k (by simpa using hk) hu
      simp only [tksC, List.flatMap_cons] at *
      rw [List.getElem?_append_right (by simp [encTk]; omega)]
      rw [show (k + 1) * 4 + j - (encTk x).length = k * 4 + j by simp [encTk]; omega]
      exact this
theorem tksC_one {l : List Tk} : ∀ v ∈ tksC l, v.oneCell' = true := by
  intro v hv
  unfold tksC at hv
  obtain ⟨q, _, hq⟩ := List.mem_flatMap.1 hv
  simp only [encTk, List.mem_cons, List.not_mem_nil, or_false] at hq
  rcases hq with rfl | rfl | rfl | rfl <;> rfl

/-- p is a backup with copies L in block g. -/
structure BkAt (w : World) (p g : Nat) (L : List Tk) : Prop where
  hd : w.heap[p]? = some (.cells #[.slice (some ⟨g, 0, none⟩) L.length L.length] 60 (0, 0))
  row : w.heap[g]? = some (.cells (tksC L).toArray 91 (0, 0))
  ne : p ≠ g
  len : 1 ≤ L.length ∧ L.length ≤ 8
  ok : tkOk L
theorem BkAt.keep {w w' : World} {p g : Nat} {L : List Tk} {S : Nat → Prop} (h : BkAt w p g L) (hc : Chg S w w') (h1 : ¬ S p) (h2 : ¬ S g) : BkAt w' p g L :=
  ⟨hc.heap h.hd h1, hc.heap h.row h2, h.ne, h.len, h.ok⟩
theorem BkAt.mono {w w' : World} {p g : Nat} {L : List Tk} (h : BkAt w p g L) (hc : Chg NoB w w') : BkAt w' p g L := h.keep hc nob nob
theorem BkAt.sl {w : World} {p g : Nat} {L : List Tk} (h : BkAt w p g L) : w.cell? ⟨p, 0, none⟩ = some (.slice (some ⟨g, 0, none⟩) L.length L.length) := cell_blk h.hd 0
theorem BkAt.cell {w : World} {p g : Nat} {L : List Tk} (h : BkAt w p g L) {k : Nat} (hk : k < L.length) {x : Tk} (hx : L[k] = x) :
    w.cell? ⟨g, k * 4, none⟩ = some (.bool x.has) ∧ w.cell? ⟨g, k * 4 + 1, none⟩ = some (.int .i64 x.p.at_) ∧ w.cell? ⟨g, k * 4 + 2, none⟩ = some (.string x.p.data) ∧ w.cell? ⟨g, k * 4 + 3, none⟩ = some (.int .i64 x.at_) := by
  have h9 : ∀ j u, (encTk L[k])[j]? = some u → w.cell? ⟨g, k * 4 + j, none⟩ = some u := fun j u hu => by
    rw [cell_blk h.row, List.getElem?_toArray]
    exact tksC_get L k hk j u hu
  rw [hx] at h9
  exact ⟨h9 0 _ rfl, h9 1 _ rfl, h9 2 _ rfl, h9 3 _ rfl⟩

theorem slTk : SlT Try.prog 58 91 (.agg #[.bool false, .int .i64 0, .string ⟨#[]⟩, .int .i64 0]) 4 40 := ⟨Try.underlying58, by kernel_rfl, rfl, by decide⟩
set_option maxRecDepth 100000 in
theorem makeTk (n : Nat) (h8 : n ≤ 8) (h1 : 1 ≤ n) (w : World) : (Instr.makeSlice 58 (.int .i64 n) (.int .i64 n)).run Try.prog w = .ok (.slice (some ⟨w.heap.size, 0, none⟩) n n) (w.alloc (.cells (tksC (bkNew n)).toArray 91)) := by
  obtain ⟨i, hi, hz0, hz1, hz2⟩ := info_parts slTk.inf
  have h := run_makeSlice (P := Try.prog) (w := w) 58 91 i _ slTk.und hi hz0 .i64 .i64 n n (by omega) (by omega) (by rw [hz1]; omega) (by rw [hz2]; omega) (by omega)
  rw [hz1] at h
  have hc : n = 1 ∨ n = 2 ∨ n = 3 ∨ n = 4 ∨ n = 5 ∨ n = 6 ∨ n = 7 ∨ n = 8 := by omega
  have e : madeCells (Value.agg #[.bool false, .int .i64 0, .string ⟨#[]⟩, .int .i64 0]).cells ((n : Int).toNat * 4) = (tksC (bkNew n)).toArray := by
    rcases hc with rfl | rfl | rfl | rfl | rfl | rfl | rfl | rfl <;> kernel_rfl
  rw [h, e]
  simp
theorem tkOk_new (n : Nat) : tkOk (bkNew n) := by
  intro x hx
  obtain rfl := List.eq_of_mem_replicate hx
  exact ⟨fun h => by simp [Tk.blank] at h, fun _ => rfl, by simp [Tk.blank, ByteArray.size]⟩

set_option maxRecDepth 100000 in
theorem bnew_bad (n : Int) (w : World) (h : n < 1 ∨ 8 < n) :
    Calls Try.prog 6 #[.int .i64 n] w fun e w' => e = .returned (.tuple #[.pointer none, .int .i64 1]) ∧ w = w' := by
  by_cases h1 : n < 1
  · clear h
    go_enter Try.func6, Try.ntmps6
    go_wp2_with fail
    go_ret2
    exact ⟨rfl, rfl⟩
  · have h2 : n > 8 := by omega
    clear h
    go_enter Try.func6, Try.ntmps6
    go_wp2_with fail
    go_ret2
    exact ⟨rfl, rfl⟩
set_option maxRecDepth 100000 in
theorem bnew_calls (n : Nat) (w : World) (h1 : 1 ≤ n) (h8 : n ≤ 8) :
    Calls Try.prog 6 #[.int .i64 n] w fun e w' => ∃ p g, e = .returned (.tuple #[.pointer (some ⟨p, 0, none⟩), .int .i64 0]) ∧ Hid (BkAt w' p g (bkNew n)) ∧ Hid (Chg NoB w w') ∧ w.heap.size ≤ p ∧ w.heap.size ≤ g := by
  have hmk := fun w => makeTk n h8 h1 w
  have z1 : ¬ (n : Int) < 1 := by omega
  have z2 : ¬ (n : Int) > 8 := by omega
  go_enter Try.func6, Try.ntmps6
  go_wp2_with fail
  go_ret2
  refine ⟨w.heap.size + 1, rfl, w.heap.size, hid ⟨?_, blk_alloc (blk_new _ _) _, by omega, by simp [bkNew]; omega, tkOk_new n⟩, hid (((Chg.refl NoB w).alloc _).alloc _), by omega, Nat.le_refl _⟩
  have := blk_new (w.alloc (.cells (tksC (bkNew n)).toArray 91)) (.cells #[.slice (some ⟨w.heap.size, 0, none⟩) n n] 60)
  simpa [bkNew] using this

/-! ### Whole -/
set_option maxRecDepth 100000 in
theorem whole1_calls (x : Tk) (w : World) : Calls Try.prog 48 #[.agg #[.bool x.has, .int .i64 x.p.at_, .string x.p.data, .int .i64 x.at_]] w fun e w' => e = .returned (.bool !x.has) ∧ Chg NoB w w' := by
  go_enter Try.func48, Try.ntmps48
  go_wp2_with fail
  go_ret
  exact ⟨rfl, (Chg.refl NoB w).alloc _⟩
set_option maxRecDepth 100000 in
theorem tkIdx_calls (p g : Nat) (L : List Tk) (w : World) (h : BkAt w p g L) :
    Calls Try.prog 62 #[.slice (some ⟨g, 0, none⟩) L.length L.length, .func (.func 48) #[] #[]] w fun e w' => ∃ i : Int, e = .returned (.int .i64 i) ∧ decide (0 ≤ i) = !bkWhole L ∧ Chg NoB w w' := by
  have HB := hid h
  have hlen := h.len
  clear h
  go_enter Try.func62, Try.ntmps62
  go_wp2_with fail
  go_loopw [8] (fun i wr => ∃ k : Nat, k ≤ L.length ∧ i = .int .i64 k ∧ Hid ((∀ j (hj : j < k) (h : j < L.length), L[j].has = true) ∧ Chg NoB w wr)) (fun i _ => L.length - (intOf i).toNat)
  case atStart => exact ⟨0, by omega, rfl, hid ⟨fun j h => by omega, Chg.refl _ _⟩⟩
  case round =>
    obtain ⟨k, hk, rfl, hI⟩ := hrel
    by_cases hlt : k < L.length
    · obtain ⟨x, hx⟩ := named L[k]
      obtain ⟨g0, g1, g2, g3⟩ := (HB.out.mono hI.out.2).cell hlt hx.out.symm
      obtain ⟨hb, hhb⟩ := named x.has
      have hc1 := fun w => whole1_calls x w
      rw [← hhb.out] at hc1 g0
      cases hb
      · have HA : Hid (bkWhole L = false) := hid (by
          unfold bkWhole
          rw [List.all_eq_false]
          exact ⟨x, by rw [hx.out]; exact List.getElem_mem hlt, by rw [← hhb.out]; simp⟩)
        go_wp2_with (go_at_call 48; refine (hc1 _).mono ?_; rintro e w' ⟨rfl, hc'⟩)
        go_ret
        exact ⟨_, rfl, by rw [HA.out]; simp, hI.out.2.trans' hc'⟩
      · go_wp2_with (go_at_call 48; refine (hc1 _).mono ?_; rintro e w' ⟨rfl, hc'⟩)
        go_roundw
        case rel =>
          refine ⟨k + 1, by omega, by go_num, hid ⟨fun j hj h => ?_, hI.out.2.trans' hc'⟩⟩
          by_cases hjk : j < k
          · exact hI.out.1 j hjk h
          · obtain rfl : j = k := by omega
            rw [← hx.out, ← hhb.out]
        case measure => simp [intOf]; omega
    · obtain rfl : L.length = k := by omega
      have HA : Hid (bkWhole L = true) := hid (by
        unfold bkWhole
        rw [List.all_eq_true]
        intro x hx
        obtain ⟨j, hj, rfl⟩ := List.getElem_of_mem hx
        exact hI.out.1 j hj hj)
      go_wp2_with fail
      go_ret
      exact ⟨_, rfl, by rw [HA.out]; rfl, hI.out.2⟩
set_option maxRecDepth 100000 in
theorem tkCont_calls (p g : Nat) (L : List Tk) (w : World) (h : BkAt w p g L) :
    Calls Try.prog 47 #[.slice (some ⟨g, 0, none⟩) L.length L.length, .func (.func 48) #[] #[]] w fun e w' => e = .returned (.bool !bkWhole L) ∧ Chg NoB w w' := by
  have hc := tkIdx_calls p g L w h
  clear h
  go_enter Try.func47, Try.ntmps47
  go_wp2_with (go_at_call 62; refine hc.mono ?_; rintro e w' ⟨i, rfl, hi, hc'⟩)
  go_ret
  exact ⟨ret_bool (by simp), hc'⟩
set_option maxRecDepth 100000 in
theorem bk_whole_calls (p g : Nat) (L : List Tk) (w : World) (h : BkAt w p g L) (res : Bool) (hres : Hid (res = bkWhole L)) :
    Calls Try.prog 19 #[.pointer (some ⟨p, 0, none⟩)] w fun e w' => e = .returned (.bool res) ∧ Chg NoB w w' := by
  have hc := tkCont_calls p g L w h
  have hs := h.sl
  rw [← hres.out] at hc
  clear h hres
  go_enter Try.func19, Try.ntmps19
  go_wp2_with (go_at_call 47; refine hc.mono ?_; rintro e w' ⟨rfl, hc'⟩)
  go_ret
  exact ⟨ret_bool (by simp), hc'⟩
set_option maxRecDepth 100000 in
theorem bk_whole_nil (w : World) : Calls Try.prog 19 #[.pointer none] w fun e w' => e = .returned (.bool false) ∧ Chg NoB w w' := by
  go_enter Try.func19, Try.ntmps19
  go_wp2_with fail
  go_ret
  exact ⟨rfl, Chg.refl _ _⟩
def bkReady (L : List Tk) : Int := if bkWhole L = true then 0 else 11
set_option maxRecDepth 100000 in
theorem bk_ready_calls (p g : Nat) (L : List Tk) (w : World) (h : BkAt w p g L) (res : Int) (hres : Hid (res = bkReady L)) :
    Calls Try.prog 29 #[.pointer (some ⟨p, 0, none⟩)] w fun e w' => e = .returned (.int .i64 res) ∧ Chg NoB w w' := by
  obtain ⟨b, hb⟩ := named (bkWhole L)
  have hc := bk_whole_calls p g L w h b hb
  clear h
  cases b
  all_goals
    go_enter Try.func29, Try.ntmps29
    go_wp2_with (go_at_call 19; refine hc.mono ?_; rintro e w' ⟨rfl, hc'⟩)
    go_ret
    exact ⟨ret_int (by rw [hres.out]; unfold bkReady; rw [← hb.out]; rfl), hc'⟩
set_option maxRecDepth 100000 in
theorem bk_ready_nil (w : World) : Calls Try.prog 29 #[.pointer none] w fun e w' => e = .returned (.int .i64 10) ∧ Chg NoB w w' := by
  go_enter Try.func29, Try.ntmps29
  go_wp2_with fail
  go_ret
  exact ⟨rfl, Chg.refl _ _⟩
end Go.Proofs.Ytghklbflbodajaa

namespace Go.Proofs.Ytghklbflbodajaa
open Go.RowKit Go.ChangeMaps Go.MapKept
attribute [local go_sem] Go.Oper.rdK
set_option linter.unusedVariables false
set_option linter.unusedSimpArgs false
set_option linter.unnecessarySimpa false
set_option maxHeartbeats 8000000

theorem tkOk_set {L : List Tk} (h : tkOk L) (k : Nat) {x : Tk} (hx : (x.has = true → x.p.right = true ∧ 0 ≤ x.at_ ∧ x.at_ ≤ 2147483647) ∧ (x.has = false → x = Tk.blank) ∧ x.p.data.size ≤ 220) : tkOk (L.set k x) := by
  intro y hy
  rcases List.mem_or_eq_of_mem_set hy with h1 | rfl
  · exact h y h1
  · exact hx
theorem right_size {p : Pg} (h : p.right = true) : p.data.size = 220 := by
  simp [Pg.right] at h
  exact h.2.2

set_option maxRecDepth 100000 in
theorem bk_take_nil (n at_ : Int) (p : Pg) (w : World) :
    Calls Try.prog 13 #[.pointer none, .int .i64 n, .agg #[.int .i64 p.at_, .string p.data], .int .i64 at_] w fun e w' => e = .returned (.int .i64 10) ∧ Chg NoB w w' := by
  go_enter Try.func13, Try.ntmps13
  go_wp2_with fail
  go_ret
  exact ⟨rfl, (Chg.refl NoB w).alloc _⟩

set_option maxRecDepth 100000 in
theorem bk_take_calls (b g : Nat) (L : List Tk) (n at_ : Int) (p : Pg) (w : World) (h : BkAt w b g L) (hf : p.data.size ≤ 2 ^ 62) (hn : fits n) (ha : fits at_) (res : List Tk × Int) (hres : Hid (res = bkTake L n p at_)) :
    Calls Try.prog 13 #[.pointer (some ⟨b, 0, none⟩), .int .i64 n, .agg #[.int .i64 p.at_, .string p.data], .int .i64 at_] w fun e w' => e = .returned (.int .i64 res.2) ∧ Hid (BkAt w' b g res.1) ∧ Hid (Chg (OneB g) w w') := by
  unfold fits at hn ha
  have HB := hid h
  have h8 := h.len
  have hs := h.sl
  clear h
  have HA : Hid (Chg NoB w (w.alloc (.cells #[.int .i64 p.at_, .string p.data] 40))) := hid ((Chg.refl NoB w).alloc _)
  have hs1 := HA.out.cell hs nob
  have hr := hres.out
  unfold bkTake at hr
  obtain ⟨f, hfr⟩ := named p.right
  by_cases h1 : n < 0
  · rw [if_pos (Or.inl h1)] at hr
    subst hr
    go_enter Try.func13, Try.ntmps13
    go_wp2_with fail
    go_ret
    exact ⟨rfl, hid (HB.out.mono HA.out), hid (HA.out.mono fun _ e => e.elim)⟩
  by_cases h2 : (L.length : Int) ≤ n
  · rw [if_pos (Or.inr h2)] at hr
    subst hr
    have h2' : n ≥ (L.length : Int) := h2
    go_enter Try.func13, Try.ntmps13
    go_wp2_with fail
    go_ret
    exact ⟨rfl, hid (HB.out.mono HA.out), hid (HA.out.mono fun _ e => e.elim)⟩
  rw [if_neg (by omega)] at hr
  have h2' : ¬ n ≥ (L.length : Int) := h2
  cases f
  · rw [if_pos hfr.out.symm] at hr
    subst hr
    go_enter Try.func13, Try.ntmps13
    go_wp2_with (go_at_call 36; refine (right_calls p _ _ hfr hf).mono ?_; rintro e w' ⟨rfl, hc⟩)
    go_ret
    exact ⟨rfl, hid (HB.out.mono (HA.out.trans' hc)), hid ((HA.out.trans' hc).mono fun _ e => e.elim)⟩
  rw [if_neg (by rw [← hfr.out]; decide)] at hr
  by_cases h3 : at_ < 0
  · rw [if_pos (Or.inl h3)] at hr
    subst hr
    go_enter Try.func13, Try.ntmps13
    go_wp2_with (go_at_call 36; refine (right_calls p _ _ hfr hf).mono ?_; rintro e w' ⟨rfl, hc⟩)
    go_ret
    exact ⟨rfl, hid (HB.out.mono (HA.out.trans' hc)), hid ((HA.out.trans' hc).mono fun _ e => e.elim)⟩
  by_cases h4 : 2147483647 < at_
  · rw [if_pos (Or.inr h4)] at hr
    subst hr
    have h4' : at_ > 2147483647 := h4
    go_enter Try.func13, Try.ntmps13
    go_wp2_with (go_at_call 36; refine (right_calls p _ _ hfr hf).mono ?_; rintro e w' ⟨rfl, hc⟩)
    go_ret
    exact ⟨rfl, hid (HB.out.mono (HA.out.trans' hc)), hid ((HA.out.trans' hc).mono fun _ e => e.elim)⟩
  rw [if_neg (by omega)] at hr
  subst hr
  have h4' : ¬ at_ > 2147483647 := h4
  have hsz := right_size hfr.out.symm
  have HZ := hid hsz
  clear hsz
  obtain ⟨k, rfl⟩ := Int.eq_ofNat_of_zero_le (a := n) (by omega)
  have hk : k < L.length := by omega
  have hb0 : (w.alloc (.cells #[.int .i64 p.at_, .string p.data] 40)).heap[w.heap.size]? = some (.cells #[.int .i64 p.at_, .string p.data] 40 (0, 0)) := blk_new _ _
  have HB0 := hid hb0
  clear hb0
  have hg := HB.out.row
  have HGl : Hid (g < w.heap.size) := hid (lt_of_block hg)
  have HG := hid hg
  clear hg
  go_enter Try.func13, Try.ntmps13
  go_upto_region 9 with (go_at_call 36; refine (right_calls p _ _ hfr hf).mono ?_; rintro e w1 ⟨rfl, hc1⟩)
  have hb1 := hc1.heap HB0.out nob
  have hg1 := hc1.heap (HA.out.heap HG.out nob) nob
  have hs2 := hc1.cell hs1 nob
  have HC1 := hid (HA.out.trans' hc1)
  have HG1 := hid hg1
  clear hc1 hg1 hs hs1
  have hc0 := cell_blk hb1 0
  have hc1 := cell_blk hb1 1
  have hlen : Hid ((tksC L).length = L.length * 4) := hid (tksC_len L)
  refine wp_region_ord 9 (.rd 0 (.rd 1 (.rd 2 (.rd 3 (.rd 4 (.rd 5 (.rd 6 (.rd 7 (.rd 8 (.one 9 (.done))))))))))) (Same w1) (by kernel_rfl) (by kernel_rfl) (by kernel_rfl) (by kernel_rfl) (by kernel_rfl) (fun _ _ d _ _ h => by cases d <;> exact h) (Same.of (Chg.refl _ _).drew) (fun hS0 => ?_)
  refine wpOrd_rd rfl rfl (by first | decide | simp) (by assumption) (fun w' hw' K hK => by ((try unfold Same at hw'); (try go_split_ands); go_simp; exact hK)) ?_
  refine wpOrd_rd rfl rfl (by first | decide | simp) (by assumption) (fun w' hw' K hK => by ((try unfold Same at hw'); (try go_split_ands); go_simp; exact hK)) ?_
  refine wpOrd_rd rfl rfl (by first | decide | simp) (by assumption) (fun w' hw' K hK => by ((try unfold Same at hw'); (try go_split_ands); go_simp; exact hK)) ?_
  refine wpOrd_rd rfl rfl (by first | decide | simp) (by assumption) (fun w' hw' K hK => by ((try unfold Same at hw'); (try go_split_ands); go_simp; exact hK)) ?_
  refine wpOrd_rd rfl rfl (by first | decide | simp) (by assumption) (fun w' hw' K hK => by ((try unfold Same at hw'); (try go_split_ands); go_simp; exact hK)) ?_
  refine wpOrd_rd rfl rfl (by first | decide | simp) (by assumption) (fun w' hw' K hK => by ((try unfold Same at hw'); (try go_split_ands); go_simp; exact hK)) ?_
  refine wpOrd_rd rfl rfl (by first | decide | simp) (by assumption) (fun w' hw' K hK => by ((try unfold Same at hw'); (try go_split_ands); go_simp; exact hK)) ?_
  refine wpOrd_rd rfl rfl (by first | decide | simp) (by assumption) (fun w' hw' K hK => by ((try unfold Same at hw'); (try go_split_ands); go_simp; exact hK)) ?_
  refine wpOrd_rd rfl rfl (by first | decide | simp) (by assumption) (fun w' hw' K hK => by ((try unfold Same at hw'); (try go_split_ands); go_simp; exact hK)) ?_
  refine wpOrd_do rfl ?_
  refine step_storeAt rfl rfl g (k * 4) (cells := encTk ⟨true, p, at_⟩) rfl rfl (show (World.drew w1).heap[g]? = _ from HG1.out) (by kernel_rfl) (by rw [hlen.out]; simp [encTk]; omega) (by simp [encTk, Value.oneCell']) ?_; intro w3 hb3 hc3 hs3
  (try dsimp only [Act.put])
  refine wpOrd_last ?_
  refine wpOrd_nil ?_
  have hcs := tksC_set L k ⟨true, p, at_⟩ hk
  have hb3' : w3.heap[g]? = some (.cells (tksC (L.set k ⟨true, p, at_⟩)).toArray 91 (0, 0)) := by rw [hb3]; congr 2; rw [← hcs]; rfl
  clear hb3 hcs
  have HB3 := hid hb3'
  clear hb3'
  have HC3 := hid hc3
  clear hc3
  go_wp2_with fail
  go_ret
  have hCC : Chg (OneB g) w w3 := (HC1.out.mono fun _ e => e.elim).drew.trans' HC3.out
  refine ⟨rfl, hid ⟨?_, ?_, HB.out.ne, by simpa using HB.out.len, tkOk_set HB.out.ok k ⟨fun _ => ⟨hfr.out.symm, by show 0 ≤ at_; omega, by show at_ ≤ _; omega⟩, fun h => by simp at h, by show p.data.size ≤ 220; rw [HZ.out]; omega⟩⟩, hid hCC⟩
  · simpa using hCC.heap HB.out.hd HB.out.ne
  · simpa using HB3.out

/-! ### From -/
theorem bkLeast_step (L : List Tk) (k : Nat) (hk : k < L.length) (m : Int) (x : Tk) (hx : L[k] = x) :
    (L.take (k + 1)).foldl (fun m x => if x.has && (decide (m < 0) || decide (x.at_ < m)) then x.at_ else m) m = (if x.has && (decide ((L.take k).foldl (fun m x => if x.has && (decide (m < 0) || decide (x.at_ < m)) then x.at_ else m) m < 0) || decide (x.at_ < (L.take k).foldl (fun m x => if x.has && (decide (m < 0) || decide (x.at_ < m)) then x.at_ else m) m)) then x.at_ else (L.take k).foldl (fun m x => if x.has && (decide (m < 0) || decide (x.at_ < m)) then x.at_ else m) m) := by
  rw [← hx, List.take_succ_eq_append_getElem hk, List.foldl_append]
  rfl
set_option maxRecDepth 100000 in
theorem bk_from_nil (w : World) : Calls Try.prog 16 #[.pointer none] w fun e w' => e = .returned (.int .i64 0) ∧ Chg NoB w w' := by
  go_enter Try.func16, Try.ntmps16
  go_wp2_with fail
  go_ret
  exact ⟨rfl, Chg.refl _ _⟩
def lst (L : List Tk) (k : Nat) : Int := (L.take k).foldl (fun m x => if x.has && (decide (m < 0) || decide (x.at_ < m)) then x.at_ else m) (-1)
theorem lst_fits {L : List Tk} (h : tkOk L) (k : Nat) : -1 ≤ lst L k ∧ lst L k ≤ 2147483647 := by
  induction k with
  | zero => simp [lst]
  | succ k ih =>
    by_cases hk : k < L.length
    · unfold lst at *
      rw [bkLeast_step L k hk _ _ rfl]
      split
      · rename_i hh
        have := (h L[k] (List.getElem_mem hk)).1 (by simp at hh; exact hh.1)
        omega
      · exact ih
    · unfold lst at *
      rw [List.take_of_length_le (by omega)] at *
      exact ih
set_option maxRecDepth 100000 in
theorem bkFrom_calls (b g : Nat) (L : List Tk) (w : World) (h : BkAt w b g L) (res : Int) (hres : Hid (res = bkFrom L)) :
    Calls Try.prog 16 #[.pointer (some ⟨b, 0, none⟩)] w fun e w' => e = .returned (.int .i64 res) ∧ Chg NoB w w' := by
  have HB := hid h
  have h8 := h.len
  have hs := h.sl
  clear h
  go_enter Try.func16, Try.ntmps16
  go_wp2_with fail
  go_loopw [3, 13] (fun m i wr => ∃ k : Nat, k ≤ L.length ∧ i = .int .i64 k ∧ m = .int .i64 (lst L k) ∧ Hid (Chg NoB w wr)) (fun _ i _ => L.length - (intOf i).toNat)
  case atStart => exact ⟨0, by omega, rfl, rfl, hid (Chg.refl _ _)⟩
  case round =>
    obtain ⟨k, hk, rfl, rfl, hI⟩ := hrel
    by_cases hlt : k < L.length
    · obtain ⟨x, hx⟩ := named L[k]
      obtain ⟨g0, g1, g2, g3⟩ := (HB.out.mono hI.out).cell hlt hx.out.symm
      obtain ⟨m, hm⟩ := named (lst L k)
      have hbd := lst_fits HB.out.ok k
      rw [← hm.out] at hbd ⊢
      obtain ⟨hb, hhb⟩ := named x.has
      have hst := bkLeast_step L k hlt (-1) x hx.out.symm
      change lst L (k + 1) = (if x.has && (decide (lst L k < 0) || decide (x.at_ < lst L k)) then x.at_ else lst L k) at hst
      rw [← hm.out, ← hhb.out] at hst
      rw [← hhb.out] at g0
      have HST := hid hst
      clear hst
      cases hb
      · have e1 : lst L (k + 1) = m := by rw [HST.out]; rfl
        have HE := hid e1
        clear e1 HST
        go_wp2_with fail
        go_roundw
        case rel => exact ⟨k + 1, by omega, by go_num, by rw [HE.out], hid (hI.out.alloc _)⟩
        case measure => simp [intOf]; omega
      · by_cases h1 : m < 0
        · have e1 : lst L (k + 1) = x.at_ := by rw [HST.out, if_pos]; simp [h1]
          have HE := hid e1
          clear e1 HST
          go_wp2_with fail
          go_roundw
          case rel => exact ⟨k + 1, by omega, by go_num, by rw [HE.out], hid (hI.out.alloc _)⟩
          case measure => simp [intOf]; omega
        · by_cases h2 : x.at_ < m
          · have e1 : lst L (k + 1) = x.at_ := by rw [HST.out, if_pos]; simp [h2]
            have HE := hid e1
            clear e1 HST
            go_wp2_with fail
            go_roundw
            case rel => exact ⟨k + 1, by omega, by go_num, by rw [HE.out], hid (hI.out.alloc _)⟩
            case measure => simp [intOf]; omega
          · have e1 : lst L (k + 1) = m := by rw [HST.out, if_neg]; simp [h1, h2]
            have HE := hid e1
            clear e1 HST
            go_wp2_with fail
            go_roundw
            case rel => exact ⟨k + 1, by omega, by go_num, by rw [HE.out], hid (hI.out.alloc _)⟩
            case measure => simp [intOf]; omega
    · obtain rfl : L.length = k := by omega
      have e1 : lst L L.length = bkLeast L := by unfold lst bkLeast; rw [List.take_length]
      obtain ⟨m, hm⟩ := named (lst L L.length)
      rw [← hm.out]
      have hr : res = max m 0 := by rw [hres.out, hm.out, e1]; rfl
      have HR := hid hr
      clear hr
      go_wp2_with fail
      all_goals go_ret
      all_goals exact ⟨ret_int (by rw [HR.out]; omega), hI.out⟩
end Go.Proofs.Ytghklbflbodajaa
