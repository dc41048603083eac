import Derived.Test.YtlhblkpdfdpiaaaLock4
import Derived.Test.YtlhblkpdfdpiaaaSl
import Derived.Test.YtlhblkpdfdpiaaaOpen
namespace Go.Proofs.Ytlhblkpdfdpiaaa
open Go.RowKit Go.ChangeMaps
set_option linter.unusedVariables false
set_option linter.unusedSimpArgs false
set_option linter.unnecessarySimpa false

theorem ownsRow.form {w : World} {B : Nat} {e : TypeId} {size : Nat} {v : Value} {n : Nat} {xs : List Value} (h : w.ownsRow B e size v n xs) : ∃ ao c, v = .slice ao n c := by
  rcases h.2 with ⟨rfl, rfl⟩ | ⟨g, cap, cur, rfl, _⟩
  · exact ⟨_, _, rfl⟩
  · exact ⟨_, _, rfl⟩

/-- A row of the reference's table. -/
structure RRow where
  txn : Int
  page : Int
  mode : Int
def encRow (x : RRow) : List Value := [.int .i64 x.txn, .int .i64 x.page, .int .i64 x.mode]

theorem slRow : SlT Try.prog 41 76 (.agg #[.int .i64 0, .int .i64 0, .int .i64 0]) 3 24 := ⟨Try.underlying41, by kernel_rfl, rfl, by omega⟩

structure RefAt (w : World) (q : Nat) (v : Value) (B : Nat) (L : List RRow) : Prop where
  blk : w.heap[q]? = some (.cells #[v] 43 (0, 0))
  own : w.ownsRow B 76 3 v L.length (L.flatMap encRow)
  ne : ¬ OwnB v q
  ge : B ≤ q
  len : L.length ≤ 1000

def RefB (q : Nat) (v : Value) : Nat → Prop := fun i => i = q ∨ OwnB v i

theorem RefAt.keep {w w' : World} {q : Nat} {v : Value} {B : Nat} {L : List RRow} {S : Nat → Prop} (h : RefAt w q v B L) (hc : Chg S w w') (h1 : ¬ S q) (h2 : ∀ i, OwnB v i → ¬ S i) : RefAt w' q v B L :=
  ⟨hc.heap h.blk h1, ownsRow.chg h.own hc h2, h.ne, h.ge, h.len⟩
theorem RefAt.vlt {w : World} {q : Nat} {v : Value} {B : Nat} {L : List RRow} (h : RefAt w q v B L) : ∀ i, OwnB v i → B ≤ i ∧ i < w.heap.size := fun i hi => OwnB.ge h.own i hi
theorem RefAt.qlt {w : World} {q : Nat} {v : Value} {B : Nat} {L : List RRow} (h : RefAt w q v B L) : q < w.heap.size := lt_of_block h.blk

/-- What the walk wants of it at element k. -/
theorem RefAt.at {w : World} {q : Nat} {v : Value} {B : Nat} {L : List RRow} (h : RefAt w q v B L) : ∃ a c, v = .slice a L.length c ∧ L.length ≤ c ∧ ∀ k (hk : k < L.length), ∃ g, a = some ⟨g, 0, none⟩ ∧ w.cell? ⟨g, k * 3, none⟩ = some (.int .i64 L[k].txn) ∧ w.cell? ⟨g, k * 3 + 1, none⟩ = some (.int .i64 L[k].page) ∧ w.cell? ⟨g, k * 3 + 2, none⟩ = some (.int .i64 L[k].mode) ∧ OwnB v g := by
  rcases h.own.2 with ⟨rfl, h3⟩ | ⟨g, cap, cur, rfl, hb, hg, hn, hm, hs, ht⟩
  · have : L = [] := List.eq_nil_of_length_eq_zero h3
    subst this
    exact ⟨none, 0, rfl, Nat.le_refl _, fun k hk => by simp at hk⟩
  · refine ⟨_, cap, rfl, hn, fun k hk => ⟨g, rfl, ?_⟩⟩
    have key : ∀ j u, (encRow L[k])[j]? = some u → w.cell? ⟨g, k * 3 + j, none⟩ = some u := by
      intro j u hu
      have h4 := flatMap_get (size := 3) (enc := encRow) (fun _ => rfl) (List.getElem?_eq_getElem hk) hu
      rw [← ht, List.getElem?_take] at h4
      split at h4
      · rw [cell_blk hg]; simpa using h4
      · cases h4
    exact ⟨key 0 _ rfl, key 1 _ rfl, key 2 _ rfl, by simp [OwnB, Value.ownBlock]⟩

/-! ### the plain functions -/
def rfBad (txn page mode : Int) : Bool := decide (txn < 1) || decide (2147483647 < txn) || decide (page < 0) || decide (7 < page) || decide (mode < 1) || decide (2 < mode)
def rfHit (txn page mode : Int) (x : RRow) : Bool := x.txn != txn && x.page == page && (x.mode == 2 || mode == 2)
def rfMay (L : List RRow) (txn page mode : Int) : Int := if rfBad txn page mode then 1 else if L.any (rfHit txn page mode) then 6 else 0
def rfIs (txn page : Int) (x : RRow) : Bool := x.txn == txn && x.page == page
def rfMode (L : List RRow) (txn page : Int) : Int := ((L.find? (rfIs txn page)).map (·.mode)).getD 0
def rfFree (L : List RRow) (txn : Int) : List RRow := L.filter (fun x => x.txn != txn)

set_option maxRecDepth 100000 in
theorem refMode (q : Nat) (v : Value) (B : Nat) (L : List RRow) (txn page : Int) (w : World) (h : RefAt w q v B L) (res : Int) (hres : Hid (res = rfMode L txn page)) :
    Calls Try.prog 42 #[.pointer (some ⟨q, 0, none⟩), .int .i64 txn, .int .i64 page] w fun e w' => e = .returned (.int .i64 res) ∧ w = w' := by
  obtain ⟨a, c, rfl, hc, hat⟩ := h.at
  have hlen := h.len
  have hq : w.cell? ⟨q, 0, none⟩ = some (.slice a L.length c) := cell_blk h.blk 0
  have HA := hid hat
  have HR := hid h
  clear hat h
  go_enter Try.func42, Try.ntmps42
  go_wp2
  go_loop [7] (fun i => ∃ k : Nat, k ≤ L.length ∧ i = .int .i64 k ∧ Hid ((L.take k).find? (rfIs txn page) = none)) (fun i => L.length - (intOf i).toNat)
  case atStart => exact ⟨0, by omega, rfl, rfl⟩
  case round =>
    obtain ⟨k, hk, rfl, HN⟩ := hrel
    by_cases hlt : k < L.length
    · obtain ⟨g, rfl, g0, g1, g2, _⟩ := HA.out k hlt
      obtain ⟨x, hx⟩ := named L[k]
      rw [← hx.out] at g0 g1 g2
      have hlt2 : (k : Int) < (L.length : Int) := by omega
      have HT : Hid (∀ b, rfIs txn page x = b → (L.take (k + 1)).find? (rfIs txn page) = if b then some x else none) := by
        intro b hb
        rw [List.take_succ_eq_append_getElem hlt, List.find?_append, HN.out, ← hx.out]
        cases b <;> simp [hb]
      cases hb1 : (x.txn == txn)
      · go_wp2
        go_round
        case rel => exact ⟨k + 1, by omega, by go_num, by have := HT.out false (by simp [rfIs, hb1]); simpa [Hid] using this⟩
        case measure => simp [intOf]; omega
      · cases hb2 : (x.page == page)
        · go_wp2
          go_round
          case rel => exact ⟨k + 1, by omega, by go_num, by have := HT.out false (by simp [rfIs, hb2]); simpa [Hid] using this⟩
          case measure => simp [intOf]; omega
        · go_wp2
          go_ret
          refine ⟨ret_int ?_, rfl⟩
          have h1 := HT.out true (by simp [rfIs, hb1, hb2])
          have h2 : L.find? (rfIs txn page) = some x := by
            rw [← List.take_append_drop (k + 1) L, List.find?_append, h1]
            rfl
          rw [hres.out, rfMode, h2]
          rfl
    · obtain rfl : k = L.length := by omega
      go_wp2
      go_ret
      refine ⟨ret_int ?_, rfl⟩
      have h1 := HN.out
      rw [List.take_length] at h1
      rw [hres.out, rfMode, h1]
      rfl

set_option maxRecDepth 100000 in
theorem refMay_bad (q : Nat) (v : Value) (B : Nat) (L : List RRow) (txn page mode : Int) (w : World) (h : RefAt w q v B L) (hb : rfBad txn page mode = true) :
    Calls Try.prog 40 #[.pointer (some ⟨q, 0, none⟩), .int .i64 txn, .int .i64 page, .int .i64 mode] w fun e w' => e = .returned (.int .i64 1) ∧ w = w' := by
  clear h
  simp only [rfBad, Bool.or_eq_true, decide_eq_true_eq] at hb
  by_cases h1 : txn < 1
  · clear hb
    go_enter Try.func40, Try.ntmps40
    go_wp2
    go_ret
    exact ⟨rfl, rfl⟩
  by_cases h2 : 2147483647 < txn
  · clear hb
    go_enter Try.func40, Try.ntmps40
    go_wp2
    go_ret
    exact ⟨rfl, rfl⟩
  by_cases h3 : page < 0
  · clear hb
    go_enter Try.func40, Try.ntmps40
    go_wp2
    go_ret
    exact ⟨rfl, rfl⟩
  by_cases h4 : 7 < page
  · clear hb
    go_enter Try.func40, Try.ntmps40
    go_wp2
    go_ret
    exact ⟨rfl, rfl⟩
  by_cases h5 : mode < 1
  · clear hb
    go_enter Try.func40, Try.ntmps40
    go_wp2
    go_ret
    exact ⟨rfl, rfl⟩
  have h6 : 2 < mode := by omega
  clear hb
  go_enter Try.func40, Try.ntmps40
  go_wp2
  go_ret
  exact ⟨rfl, rfl⟩

set_option maxRecDepth 100000 in
theorem refMay_ok (q : Nat) (v : Value) (B : Nat) (L : List RRow) (txn page mode : Int) (w : World) (h : RefAt w q v B L) (hb : rfBad txn page mode = false) (res : Int) (hres : Hid (res = if L.any (rfHit txn page mode) then 6 else 0)) :
    Calls Try.prog 40 #[.pointer (some ⟨q, 0, none⟩), .int .i64 txn, .int .i64 page, .int .i64 mode] w fun e w' => e = .returned (.int .i64 res) ∧ Chg NoB w w' := by
  have hb' := hb
  simp only [rfBad, Bool.or_eq_false_iff, decide_eq_false_iff_not, Int.not_lt] at hb'
  obtain ⟨⟨⟨⟨⟨i1, i2⟩, i3⟩, i4⟩, i5⟩, i6⟩ := hb'
  clear hb
  obtain ⟨a, c, rfl, hc, hat⟩ := h.at
  have hlen := h.len
  have HA := hid hat
  have HR := hid h
  have hq : w.cell? ⟨q, 0, none⟩ = some (.slice a L.length c) := cell_blk h.blk 0
  clear hat h
  go_enter Try.func40, Try.ntmps40
  go_wp2
  clear hq
  go_loopw [9] (fun i wr => ∃ k : Nat, k ≤ L.length ∧ i = .int .i64 k ∧ Hid ((L.take k).any (rfHit txn page mode) = false) ∧ Chg NoB w wr) (fun i _ => L.length - (intOf i).toNat)
  case atStart => exact ⟨0, by omega, rfl, rfl, Chg.refl _ _⟩
  case round =>
    obtain ⟨k, hk, rfl, HN, hC⟩ := hrel
    have hq : wr.cell? ⟨q, 0, none⟩ = some (.slice a L.length c) := cell_blk (hC.heap HR.out.blk (fun e => e)) 0
    by_cases hlt : k < L.length
    · obtain ⟨g, rfl, g0, g1, g2, _⟩ := HA.out k hlt
      obtain ⟨x, hx⟩ := named L[k]
      rw [← hx.out] at g0 g1 g2
      replace g0 := hC.cell g0 (fun e => e)
      replace g1 := hC.cell g1 (fun e => e)
      replace g2 := hC.cell g2 (fun e => e)
      have hlt2 : (k : Int) < (L.length : Int) := by omega
      have HT : Hid (∀ b, rfHit txn page mode x = b → (L.take (k + 1)).any (rfHit txn page mode) = b) := by
        intro b hb
        rw [List.take_succ_eq_append_getElem hlt, List.any_append, HN.out, ← hx.out]
        simp [hb]
      obtain ⟨O, hO⟩ := named (Obj.cells #[Value.int IntKind.i64 x.txn, Value.int IntKind.i64 x.page, Value.int IntKind.i64 x.mode] 76)
      have hC2 : Chg NoB w (wr.alloc O) := hC.alloc O
      rw [hO.out] at hC2
      clear hC
      have no : rfHit txn page mode x = false → Hid ((L.take (k + 1)).any (rfHit txn page mode) = false) := fun h => HT.out _ h
      have HNO := hid no
      clear no
      have yes : rfHit txn page mode x = true → res = 6 := by
        intro h
        have h1 := HT.out _ h
        rw [hres.out, if_pos]
        rw [← List.take_append_drop (k + 1) L, List.any_append, h1]
        rfl
      have HY := hid yes
      clear yes
      cases b1 : (x.txn != txn)
      · go_wp2
        go_roundw
        case rel => exact ⟨k + 1, by omega, by go_num, HNO.out (by simp [rfHit, b1]), hC2⟩
        case measure => simp [intOf]; omega
      · cases b2 : (x.page == page)
        · go_wp2
          go_roundw
          case rel => exact ⟨k + 1, by omega, by go_num, HNO.out (by simp [rfHit, b2]), hC2⟩
          case measure => simp [intOf]; omega
        · cases b3 : (x.mode == 2)
          · cases b4 : (mode == 2)
            · go_wp2
              go_roundw
              case rel => exact ⟨k + 1, by omega, by go_num, HNO.out (by simp [rfHit, b3, b4]), hC2⟩
              case measure => simp [intOf]; omega
            · go_wp2
              go_ret
              exact ⟨ret_int (HY.out (by simp [rfHit, b1, b2, b4])).symm, hC2⟩
          · go_wp2
            go_ret
            exact ⟨ret_int (HY.out (by simp [rfHit, b1, b2, b3])).symm, hC2⟩
    · obtain rfl : k = L.length := by omega
      go_wp2
      go_ret
      refine ⟨ret_int ?_, hC⟩
      have h1 := HN.out
      rw [List.take_length] at h1
      rw [hres.out, h1]
      rfl

theorem refMay (q : Nat) (v : Value) (B : Nat) (L : List RRow) (txn page mode : Int) (w : World) (h : RefAt w q v B L) (res : Int) (hres : Hid (res = rfMay L txn page mode)) :
    Calls Try.prog 40 #[.pointer (some ⟨q, 0, none⟩), .int .i64 txn, .int .i64 page, .int .i64 mode] w fun e w' => e = .returned (.int .i64 res) ∧ Chg NoB w w' := by
  cases hb : rfBad txn page mode
  · exact refMay_ok q v B L txn page mode w h hb res (by rw [hres.out]; simp [rfMay, hb, Hid])
  · refine (refMay_bad q v B L txn page mode w h hb).mono ?_
    rintro e w' ⟨rfl, rfl⟩
    exact ⟨ret_int (by rw [hres.out]; simp [rfMay, hb]), Chg.refl _ _⟩
end Go.Proofs.Ytlhblkpdfdpiaaa
