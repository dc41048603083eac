import Derived.Test.YtghklbflbodajaaBk5
import Derived.Recover
import Derived.Test.YtghklbflbodajaaA7
namespace Go.Proofs.Ytghklbflbodajaa
open Go.RowKit Go.ChangeMaps Go.MapKept
set_option linter.unusedVariables false
set_option linter.unusedSimpArgs false
set_option linter.unnecessarySimpa false
set_option maxHeartbeats 8000000

theorem errAssert (x : Int) (w : World) : (Instr.typeAssert (.iface 24 (.int .i64 x)) 20 24 true).run Try.prog w = .ok (.tuple #[.int .i64 x, .bool true]) w := by
  simp [Instr.typeAssert, run_underlying Try.underlying24]
theorem nilAssert (w : World) : (Instr.typeAssert .nilIface 20 24 true).run Try.prog w = .ok (.tuple #[.int .i64 0, .bool false]) w := by kernel_rfl
set_option maxRecDepth 100000 in
theorem bkMust_ok (w : World) : Calls Try.prog 23 #[.bool true] w fun e w' => e = .returned (.tuple #[]) ∧ w' = w := by
  go_enter Try.func23, Try.ntmps23
  go_wp2
  go_end0
  exact ⟨rfl, rfl⟩
set_option maxRecDepth 100000 in
theorem bkMust_no (w : World) : Calls Try.prog 23 #[.bool false] w fun e w' => e = .panicked [{ v := .iface 24 (.int .i64 3), recovered := false }] ∧ w' = w := by
  go_enter Try.func23, Try.ntmps23
  go_wp2
  exact ⟨rfl, rfl, rfl⟩

set_option maxRecDepth 100000 in
theorem bkCatch (p q : Nat) (x : Int) (older : List PanicEntry) (w : World) (h1 : w.frozen? ⟨p, 0, none⟩ = false) (h2 : w.frozen? ⟨q, 0, none⟩ = false) (u1 u2 : Value) (h3 : w.cell? ⟨p, 0, none⟩ = some u1) (h4 : w.cell? ⟨q, 0, none⟩ = some u2) (hpq : p ≠ q) :
    CallsD Try.prog 22 #[.pointer (some ⟨p, 0, none⟩), .pointer (some ⟨q, 0, none⟩)] (.panicking ({ v := .iface 24 (.int .i64 x), recovered := false } :: older)) w fun e u' w' =>
      e = .returned (.tuple #[]) ∧ u' = .panicking ({ v := .iface 24 (.int .i64 x), recovered := true } :: older) ∧ w' = (w.setCell ⟨p, 0, none⟩ (.pointer none)).setCell ⟨q, 0, none⟩ (.int .i64 x) := by
  have hta := errAssert x
  have h5 : (w.setCell ⟨p, 0, none⟩ (.pointer none)).cell? ⟨q, 0, none⟩ = some u2 := by rw [World.cell?_setCell_other _ _ _ _ (by simp [hpq])]; exact h4
  have h6 : (w.setCell ⟨p, 0, none⟩ (.pointer none)).frozen? ⟨q, 0, none⟩ = false := by simpa using h2
  refine callsD_of_wpS Try.func22 rfl fun c₀ cs hu => ?_
  simp only [Try.ntmps22, List.size_toArray, List.length_cons, List.length_nil, Nat.reduceAdd, Nat.reduceSub, Array.replicate_succ, Array.replicate_zero, List.push_toArray, List.append_toArray, List.nil_append, List.cons_append]
  apply wpS_seq
  apply wpS_region
  simp [wpOpsS, go_sem, recoverD, hu, hta, Exit.thenS]
  apply wpS_seq
  apply wpS_region
  simp [wpOpsS, go_sem, Exit.thenS]
  refine wpS_cond (t := true) (by simp [Act.eval]) ?_
  simp only [if_true]
  apply wpS_region
  simp [wpOpsS, go_sem, h1, h2, h3, h4, h5, h6, bodyPostS, results, Try.results22]
set_option maxRecDepth 100000 in
theorem bkIdle (p q : Nat) (w : World) :
    CallsD Try.prog 22 #[.pointer (some ⟨p, 0, none⟩), .pointer (some ⟨q, 0, none⟩)] .returning w fun e u' w' => e = .returned (.tuple #[]) ∧ u' = .returning ∧ w' = w := by
  have hta := nilAssert
  refine callsD_of_wpS Try.func22 rfl fun c₀ cs hu => ?_
  simp only [Try.ntmps22, List.size_toArray, List.length_cons, List.length_nil, Nat.reduceAdd, Nat.reduceSub, Array.replicate_succ, Array.replicate_zero, List.push_toArray, List.append_toArray, List.nil_append, List.cons_append]
  apply wpS_seq
  apply wpS_region
  simp [wpOpsS, go_sem, recoverD, hu, hta, Exit.thenS]
  apply wpS_seq
  apply wpS_region
  simp [wpOpsS, go_sem, Exit.thenS]
  refine wpS_cond (t := false) (by simp [Act.eval]) ?_
  simp only [Bool.false_eq_true, if_false]
  refine wpS_of_wp (wp_skip ?_)
  cases c₀
  simp_all [bodyPostS, results, Try.results22]
end Go.Proofs.Ytghklbflbodajaa

namespace Go.Proofs.Ytghklbflbodajaa
open Go.RowKit Go.ChangeMaps Go.MapKept
set_option linter.unusedVariables false
set_option linter.unusedSimpArgs false
set_option linter.unnecessarySimpa false
set_option maxHeartbeats 8000000

set_option maxRecDepth 100000 in
theorem hasPre1 (s : ByteArray) (w : World) (h4 : 4 ≤ s.size) (hf : s.size ≤ 2 ^ 63 - 1) (r : Bool) (hr : Hid (r = ((s.extract 0 4).toList == [66, 75, 80, 49]))) :
    Calls Try.prog 50 #[.string s, .string ⟨#[66, 75, 80, 49]⟩] w fun e w' => e = .returned (.bool r) ∧ w' = w := by
  obtain ⟨n, hn⟩ := named s.size
  have hs : (4 : Int) ≤ (s.size : Int) := by omega
  go_enter Try.func50, Try.ntmps50
  go_wp2
  go_ret
  exact ⟨ret_bool (by rw [hr.out]), rfl⟩
set_option maxRecDepth 100000 in
theorem hasPre (s : ByteArray) (w : World) (h4 : 4 ≤ s.size) (hf : s.size ≤ 2 ^ 63 - 1) (r : Bool) (hr : Hid (r = ((s.extract 0 4).toList == [66, 75, 80, 49]))) :
    Calls Try.prog 24 #[.string s, .string ⟨#[66, 75, 80, 49]⟩] w fun e w' => e = .returned (.bool r) ∧ w' = w := by
  have hc := hasPre1 s w h4 hf r hr
  go_enter Try.func24, Try.ntmps24
  go_wp2_with (go_at_call 50; refine hc.mono ?_; rintro e w1 ⟨rfl, rfl⟩)
  go_ret
  exact ⟨rfl, rfl⟩

/-! ### Read -/
/-- What stands for copy i. -/
def bkT (s : ByteArray) (i : Nat) : ByteArray := (s.extract (5 + i * 228) s.size).extract 0 228
def bkGood (s : ByteArray) (i : Nat) : Bool := decide ((unpackPg ((bkT s i).extract 4 (bkT s i).size)).2 = 0) && decide (numK (bkT s i) 4 ≤ 2147483647)
def bkItem (s : ByteArray) (i : Nat) : Tk := ⟨true, (unpackPg ((bkT s i).extract 4 (bkT s i).size)).1, numK (bkT s i) 4⟩
def bkN (s : ByteArray) : Nat := if h : 4 < s.size then (s[4]'h).toNat else 0
def bkHead (s : ByteArray) : Bool := decide (4 < s.size) && (((s.extract 0 4).toList == [66, 75, 80, 49]) && (decide (1 ≤ bkN s) && (decide (bkN s ≤ 8) && decide (s.size = 5 + bkN s * 228))))
def bkRead (s : ByteArray) : Option (List Tk) := if bkHead s && (List.range (bkN s)).all (bkGood s) then some ((List.range (bkN s)).map (bkItem s)) else none
/-- The copies when k were read. -/
def bkPart (s : ByteArray) (n k : Nat) : List Tk := (List.range k).map (bkItem s) ++ List.replicate (n - k) Tk.blank
theorem bkPart_len (s : ByteArray) {n k : Nat} (h : k ≤ n) : (bkPart s n k).length = n := by simp [bkPart]; omega
theorem unpack_right (s : ByteArray) (h : (unpackPg s).2 = 0) : (unpackPg s).1.right = true := by
  unfold unpackPg at h ⊢
  split at h
  · rename_i h1
    rw [if_pos h1]
    dsimp only at h ⊢
    split at h
    · rename_i h2
      rw [if_pos h2]
      exact h2
    · simp at h
  · simp at h
theorem bkPart_set (s : ByteArray) {n k : Nat} (h : k < n) : (bkPart s n k).set k (bkItem s k) = bkPart s n (k + 1) := by
  unfold bkPart
  obtain ⟨m, hm⟩ : ∃ m, n - k = m + 1 := ⟨n - k - 1, by omega⟩
  rw [hm, List.replicate_succ, List.range_succ, List.map_append, List.append_assoc, show n - (k + 1) = m by omega]
  rw [List.set_append_right _ _ (by simp), List.length_map, List.length_range, Nat.sub_self, List.set_cons_zero]
  rfl
theorem bkPart_take (s : ByteArray) {n k : Nat} (h : k < n) {x : Tk} (hx : x = bkItem s k) (hg : x.p.right = true) (h0 : 0 ≤ x.at_) (h1 : x.at_ ≤ 2147483647) (hh : x.has = true) : bkTake (bkPart s n k) k x.p x.at_ = (bkPart s n (k + 1), 0) := by
  have e : (⟨true, x.p, x.at_⟩ : Tk) = bkItem s k := by rw [← hx]; cases x; simp_all
  have hs := bkPart_set s h
  rw [← e] at hs
  have hl := bkPart_len s (Nat.le_of_lt h)
  generalize bkPart s n k = P at *
  generalize bkPart s n (k + 1) = P' at *
  unfold bkTake
  rw [if_neg (by omega), if_neg (by rw [hg]; decide), if_neg (by omega), Int.toNat_natCast, hs]
end Go.Proofs.Ytghklbflbodajaa

namespace Go.Proofs.Ytghklbflbodajaa
open Go.RowKit Go.ChangeMaps Go.MapKept
set_option linter.unusedVariables false
set_option linter.unusedSimpArgs false
set_option linter.unnecessarySimpa false
set_option maxHeartbeats 8000000

/-- []byte(s) -/
theorem step_convB {P : Program} {w : World} {ops : Array Oper} {rest : List Oper} {o : Oper} {a : Act} {Q : Exit → Act → World → Prop} (hg : o.guard = none) (x : Operand) (src dst e : TypeId) (hop : o.op = .convert src dst x) (hs : P.underlying src = some .string) (hd : P.underlying dst = some (.slice e)) (he : P.underlying e = some (.int .u8))
    (s : ByteArray) (hx : a.eval x = .string s)
    (hK : ∀ w' c, Chg NoB w w' → s.size ≤ c → (∀ j (hj : j < s.size), w'.cell? ⟨w.heap.size, j, none⟩ = some (.int .u8 (s.data[j]'hj).toNat)) → wpList P ops Q rest (a.put o.dst (.slice (some ⟨w.heap.size, 0, none⟩) s.size c)) w') : wpList P ops Q (o :: rest) a w := by
  have hr := run_bytes_of_string (P := P) w src dst e s hs hd he
  generalize hC : bytesRow s (grownCap w s.size 0 e) = C at hr
  have hrun : (execOp a.eval o).run P w = .ok (.value (.slice (some ⟨w.heap.size, 0, none⟩) s.size (grownCap w s.size 0 e))) (w.drew.alloc (.cells C e (C.size, C.size + 1))) := by
    simp [execOp, hop, hx, hr, Result.andThen]
  refine step_run (wanted_none hg) hrun (hK _ _ ((Chg.refl NoB w).drew.alloc _) (grownCap_ge w s.size 0 e) ?_)
  intro j hj
  have hbk : (w.drew.alloc (.cells C e (C.size, C.size + 1))).heap[w.heap.size]? = some (.cells C e (C.size, C.size + 1)) := blk_new w.drew _
  rw [cell_blk hbk, ← hC]
  have hj2 : j < s.data.size := hj
  unfold bytesRow
  rw [Array.getElem?_append_left (by simpa using hj2), Array.getElem?_map, Array.getElem?_eq_getElem hj2]
  rfl
end Go.Proofs.Ytghklbflbodajaa
