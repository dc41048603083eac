import Derived.Test.YtghklbflbodajaaA3
import Derived.Laws.BitsAllLaws
namespace Go.Proofs.Ytghklbflbodajaa
open Go.RowKit Go.ChangeMaps Go.MapKept
set_option linter.unusedVariables false
set_option linter.unusedSimpArgs false
set_option linter.unnecessarySimpa false
set_option maxHeartbeats 8000000

/-! ### numbers as bytes -/
def b4 (n : Nat) (i : Nat) : UInt8 := UInt8.ofNat (n / 2 ^ (24 - 8 * i))
def be4 (n : Nat) : List UInt8 := [b4 n 0, b4 n 1, b4 n 2, b4 n 3]
def num4 (l : List UInt8) : Nat := l.foldl (fun n b => n * 256 + b.toNat) 0
theorem b4_nat (n i : Nat) : (b4 n i).toNat = n / 2 ^ (24 - 8 * i) % 256 := by simp [b4]
theorem num4_be4 (n : Nat) (h : n < 4294967296) : num4 (be4 n) = n := by
  simp only [num4, be4, List.foldl_cons, List.foldl_nil, b4_nat]
  simp only [Nat.reduceMul, Nat.reduceSub, Nat.reducePow]
  omega
theorem be4_num4 {l : List UInt8} (h : l.length = 4) : be4 (num4 l) = l := by
  match l, h with
  | [a, b, c, d], _ =>
    have ha := a.toNat_lt; have hb := b.toNat_lt; have hc := c.toNat_lt; have hd := d.toNat_lt
    simp only [num4, be4, List.foldl_cons, List.foldl_nil, List.cons.injEq, and_true]
    refine ⟨?_, ?_, ?_, ?_⟩ <;> (apply UInt8.toNat_inj.1; rw [b4_nat]; simp only [Nat.reduceMul, Nat.reduceSub, Nat.reducePow] at *; omega)
theorem byteOr {x b : Nat} (h1 : x % 256 = 0) (h2 : b < 256) (h3 : x + b < 9223372036854775808) : bits .or .i64 (x : Int) (b : Int) = ((x + b : Nat) : Int) := by
  show IntKind.i64.wrap ((BitVec.ofInt 64 (x : Int) ||| BitVec.ofInt 64 (b : Int)).toNat : Int) = _
  rw [BitVec.toNat_or, ofInt_u64 x (by omega), ofInt_u64 b (by omega), nat_join 8 x b (by simpa using h1) (by simpa using h2)]
  have e : (((x + b : Nat) : Int)) % 2 ^ 64 = ((x + b : Nat) : Int) := Int.emod_eq_of_lt (by omega) (by omega)
  simp only [IntKind.wrap, IntKind.bits, IntKind.signed, e]
  rw [if_neg]
  simp
  omega
/-- What a right page packs to: the bytes so far. -/
def bsP (n k : Nat) : List UInt8 := (be4 n).take k ++ List.replicate (224 - k) 0
theorem bsP_set (n k : Nat) (hk : k < 4) : (bsP n k).set k (b4 n k) = bsP n (k + 1) := by
  match k, hk with
  | 0, _ => rfl
  | 1, _ => rfl
  | 2, _ => rfl
  | 3, _ => rfl
set_option maxRecDepth 100000 in
theorem zero_224 (w : World) : (zeroValue 113).run Try.prog w = .ok (.agg (Lib.byteCells (bsP 0 0)).toArray) w := by kernel_rfl
end Go.Proofs.Ytghklbflbodajaa

namespace Go.Proofs.Ytghklbflbodajaa
open Go.RowKit Go.ChangeMaps Go.MapKept
attribute [local go_sem] Go.Oper.rdK
set_option linter.unusedVariables false
set_option linter.unusedSimpArgs false
set_option linter.unnecessarySimpa false
set_option maxHeartbeats 8000000

/-- One byte is stored. -/
theorem step_storeB {P : Program} {ops : Array Oper} {rest : List Oper} {o : Oper} {a : Act} {w : World} {Q : Exit → Act → World → Prop} (hgd : o.guard = none) {ty : TypeId} {x y : Operand} (ho : o.op = .store ty x y)
    (g off : Nat) {v : Value} (b : UInt8) (hx : a.eval x = .pointer (some ⟨g, off, none⟩)) (hy : a.eval y = v) (hv : v = .int .u8 b.toNat) {t : TypeId} {l : List UInt8} (hg : BytesAt w g t l) (hlt : off < l.length) (hi : (P.info? ty).map (·.size) = some 1)
    (hK : ∀ w', BytesAt w' g t (l.set off b) → Chg (OneB g) w w' → w'.heap.size = w.heap.size → wpList P ops Q rest (a.put o.dst undef) w') : wpList P ops Q (o :: rest) a w := by
  subst hv
  refine step_store1 hgd ho g off hx hy rfl rfl hg (by rw [Lib.byteCells_length]; exact hlt) hi fun w' h1 h2 h3 => hK w' ?_ h2 h3
  unfold BytesAt
  rw [h1]
  simp [Lib.byteCells, List.map_set]

theorem BytesAt.setCell {w : World} {g : Nat} {t : TypeId} {l : List UInt8} (h : BytesAt w g t l) (k : Nat) (b : UInt8) {v : Value} (hv : v = .int .u8 b.toNat) : BytesAt (w.setCell ⟨g, k, none⟩ v) g t (l.set k b) := by
  subst hv
  unfold BytesAt at *
  rw [blk_setCell h]
  simp [Lib.byteCells, List.map_set]
theorem BytesAt.cell {w : World} {g : Nat} {t : TypeId} {l : List UInt8} (h : BytesAt w g t l) (k : Nat) (hk : k < l.length) : w.cell? ⟨g, k, none⟩ = some (.int .u8 l[k].toNat) := by
  rw [cell_blk h]
  simp [Lib.byteCells, hk]
theorem BytesAt.fz {w : World} {g : Nat} {t : TypeId} {l : List UInt8} (h : BytesAt w g t l) (k : Nat) : w.frozen? ⟨g, k, none⟩ = false := frozen_blk h k

/-- What Pack answers. -/
def Pg.pack (p : Pg) : ByteArray × Int := if p.right = true then (⟨(be4 p.at_.toNat ++ p.data.data.toList).toArray⟩, 0) else (⟨#[]⟩, 3)

set_option maxRecDepth 100000 in
theorem pack_calls (p : Pg) (w : World) (hf : p.data.size ≤ 2 ^ 62) (res : ByteArray × Int) (hres : Hid (res = p.pack)) :
    Calls Try.prog 32 #[.agg #[.int .i64 p.at_, .string p.data]] w fun e w' => e = .returned (.tuple #[.string res.1, .int .i64 res.2]) ∧ Chg NoB w w' := by
  have HA : Hid (Chg NoB w (w.alloc (.cells #[.int .i64 p.at_, .string p.data] 40))) := hid ((Chg.refl NoB w).alloc _)
  have HB0 : Hid ((w.alloc (.cells #[.int .i64 p.at_, .string p.data] 40)).heap[w.heap.size]? = some (.cells #[.int .i64 p.at_, .string p.data] 40 (0, 0))) := hid (blk_new _ _)
  obtain ⟨f, hfr⟩ := named p.right
  have hr := hres.out
  unfold Pg.pack at hr
  rw [← hfr.out] at hr
  cases f
  · rw [if_neg (by decide)] at hr
    subst hr
    go_enter Try.func32, Try.ntmps32
    go_wp2_with (go_at_call 36; refine (right_calls p _ _ hfr hf).mono ?_; rintro e w' ⟨rfl, hc⟩)
    go_ret2
    exact ⟨rfl, HA.out.trans' hc⟩
  rw [if_pos rfl] at hr
  have hsz : Hid (p.data.size = 220) := hid (by have := hfr.out.symm; simp [Pg.right] at this; exact this.2.2)
  have hat : 0 ≤ p.at_ ∧ p.at_ ≤ 2147483647 := by have := hfr.out.symm; simp [Pg.right] at this; exact ⟨this.1, this.2.1⟩
  obtain ⟨pa, d⟩ := p
  simp only at hat HA HB0 hsz hr hf ⊢
  obtain ⟨n, rfl⟩ : ∃ n : Nat, pa = n := Int.eq_ofNat_of_zero_le hat.1
  have hn2 : n ≤ 2147483647 := by omega
  clear hat
  go_enter Try.func32, Try.ntmps32
  go_wp2_with (first
    | (go_at_call 36; refine (right_calls ⟨(n : Int), d⟩ _ _ hfr hf).mono ?_; rintro e w1 ⟨rfl, hc1⟩; have hb1 := hc1.heap HB0.out nob; have hz1 := hc1.size; rw [World.size_alloc] at hz1; have HC1 := hid (HA.out.trans' hc1); clear hc1)
    | ((fail_if_success (fail_if_success (with_reducible change wpList _ _ _ (Oper.mk _ (.alloc 113) _ _ _ _ :: _) _ _))); refine step_allocB rfl _ rfl (zero_224 _) ?_; intro w2 hb2 hc2 hs2; have HB2 := hid hb2; have HC2 := hid (HC1.out.trans' hc2); have hb3 := hc2.heap hb1 nob; clear hb2 hs2))
  have HB3 := hid hb3
  clear hb3 hb1
  have HG1 : Hid (w.heap.size < w1.heap.size) := hid (by omega)
  clear hz1
  go_loopw [9] (fun i wr => ∃ k : Nat, k ≤ 4 ∧ i = .int .i64 k ∧ Hid (BytesAt wr w1.heap.size 113 (bsP n k) ∧ Chg NoB w wr ∧ wr.heap[w.heap.size]? = some (.cells #[.int .i64 n, .string d] 40 (0, 0)))) (fun i _ => 4 - (intOf i).toNat)
  case atStart => exact ⟨0, by omega, rfl, hid ⟨HB2.out, HC2.out, HB3.out⟩⟩
  case round =>
    obtain ⟨k, hk, rfl, hI⟩ := hrel
    have hc0 : wr.cell? ⟨w.heap.size, 0, none⟩ = some (.int .i64 n) := cell_blk hI.out.2.2 0
    by_cases hlt : k < 4
    · have hcase : k = 0 ∨ k = 1 ∨ k = 2 ∨ k = 3 := by omega
      rcases hcase with rfl | rfl | rfl | rfl
      · have z0 := hI.out.1.cell 0 (by simp [bsP, be4])
        have z1 := hI.out.1.fz 0
        go_wp2_with fail
        go_roundw
        case rel => exact ⟨0 + 1, by omega, by go_num, hid ⟨hI.out.1.setCell 0 (b4 n 0) (by rw [b4_nat]; exact congrArg _ (by simp only [Nat.reduceMul, Nat.reduceSub, Nat.reducePow]; omega)), hI.out.2.1.setCell (.inr (by have := HG1.out; show w.heap.size ≤ w1.heap.size; omega)) _, blk_setCell_other hI.out.2.2 (by have := HG1.out; show w.heap.size ≠ w1.heap.size; omega) _⟩⟩
        case measure => simp [intOf]
      · have z0 := hI.out.1.cell 1 (by simp [bsP, be4])
        have z1 := hI.out.1.fz 1
        go_wp2_with fail
        go_roundw
        case rel => exact ⟨1 + 1, by omega, by go_num, hid ⟨hI.out.1.setCell 1 (b4 n 1) (by rw [b4_nat]; exact congrArg _ (by simp only [Nat.reduceMul, Nat.reduceSub, Nat.reducePow]; omega)), hI.out.2.1.setCell (.inr (by have := HG1.out; show w.heap.size ≤ w1.heap.size; omega)) _, blk_setCell_other hI.out.2.2 (by have := HG1.out; show w.heap.size ≠ w1.heap.size; omega) _⟩⟩
        case measure => simp [intOf]
      · have z0 := hI.out.1.cell 2 (by simp [bsP, be4])
        have z1 := hI.out.1.fz 2
        go_wp2_with fail
        go_roundw
        case rel => exact ⟨2 + 1, by omega, by go_num, hid ⟨hI.out.1.setCell 2 (b4 n 2) (by rw [b4_nat]; exact congrArg _ (by simp only [Nat.reduceMul, Nat.reduceSub, Nat.reducePow]; omega)), hI.out.2.1.setCell (.inr (by have := HG1.out; show w.heap.size ≤ w1.heap.size; omega)) _, blk_setCell_other hI.out.2.2 (by have := HG1.out; show w.heap.size ≠ w1.heap.size; omega) _⟩⟩
        case measure => simp [intOf]
      · have z0 := hI.out.1.cell 3 (by simp [bsP, be4])
        have z1 := hI.out.1.fz 3
        go_wp2_with fail
        go_roundw
        case rel => exact ⟨3 + 1, by omega, by go_num, hid ⟨hI.out.1.setCell 3 (b4 n 3) (by rw [b4_nat]; exact congrArg _ (by simp only [Nat.reduceMul, Nat.reduceSub, Nat.reducePow]; omega)), hI.out.2.1.setCell (.inr (by have := HG1.out; show w.heap.size ≤ w1.heap.size; omega)) _, blk_setCell_other hI.out.2.2 (by have := HG1.out; show w.heap.size ≠ w1.heap.size; omega) _⟩⟩
        case measure => simp [intOf]
    · obtain rfl : k = 4 := by omega
      have hl4 : bsP n 4 = be4 n ++ List.replicate 220 0 := rfl
      have hsp : splice (bsP n 4) 4 d.data.toList = be4 n ++ d.data.toList := by
        have h9 : d.data.toList.length = 220 := by rw [← Lib.size_eq]; exact hsz.out
        unfold splice
        rw [hl4, h9]
        simp [be4]
      have HSP := hid hsp
      clear hsp hl4
      have hc1 : wr.cell? ⟨w.heap.size, 1, none⟩ = some (.string d) := cell_blk hI.out.2.2 1
      have hdl : (d.size : Int) ≤ 220 := by rw [hsz.out]; omega
      have hlen : Hid ((be4 n ++ d.data.toList).length = 224) := hid (by rw [List.length_append, ← Lib.size_eq, hsz.out]; rfl)
      go_upto_region 9 with fail
      refine wp_region_ord 3 (.rd 0 (.rd 1 (.rd 2 (.one 3 (.done))))) (Same wr) (by kernel_rfl) (by kernel_rfl) (by kernel_rfl) (by kernel_rfl) (by kernel_rfl) (fun _ _ d _ _ h => by cases d <;> exact h) (Same.of (Chg.refl _ _).drew) (fun hS0 => ?_)
      refine wpOrd_rd rfl rfl (by first | decide | simp) (by assumption) (fun w' hw' K hK => by ((try unfold Same at hw'); (try go_split_ands); go_simp; exact hK)) ?_
      refine wpOrd_rd rfl rfl (by first | decide | simp) (by assumption) (fun w' hw' K hK => by ((try unfold Same at hw'); (try go_split_ands); go_simp; exact hK)) ?_
      refine wpOrd_rd rfl rfl (by first | decide | simp) (by assumption) (fun w' hw' K hK => by ((try unfold Same at hw'); (try go_split_ands); go_simp; exact hK)) ?_
      refine wpOrd_do rfl ?_
      refine step_copyS rfl _ _ _ _ rfl 5 Try.underlying64 (by kernel_rfl) (show (World.drew wr).heap[w1.heap.size]? = _ from hI.out.1) rfl d rfl (by have := hsz.out; omega) (by have := hsz.out; simp [bsP, be4]; omega) ?_; intro w4 hb4 hc4; rw [HSP.out] at hb4
      (try dsimp only [Act.put])
      (try simp only [List.setIfInBounds_toArray, List.set_cons_zero, List.set_cons_succ])
      refine wpOrd_last ?_
      refine wpOrd_nil ?_
      go_wp2_with ((fail_if_success (fail_if_success (with_reducible change wpList _ _ _ (Oper.mk _ (.convert 64 _ _) _ _ _ _ :: _) _ _))); refine step_convS rfl _ _ _ _ rfl Try.underlying64 Try.underlying5 Try.underlying9 hb4 224 224 hlen.out.symm rfl ?_)
      go_ret2
      refine ⟨by rw [hr]; rfl, (hI.out.2.1).drew.new hc4 (fun i x => by have h' : i = w1.heap.size := x; have := HG1.out; omega)⟩
end Go.Proofs.Ytghklbflbodajaa

namespace Go.Proofs.Ytghklbflbodajaa
open Go.RowKit Go.ChangeMaps Go.MapKept
attribute [local go_sem] Go.Oper.rdK
set_option linter.unusedVariables false
set_option linter.unusedSimpArgs false
set_option linter.unnecessarySimpa false
set_option maxHeartbeats 8000000

/-- The number of the first k bytes. -/
def numK (s : ByteArray) (k : Nat) : Nat := num4 (s.data.toList.take k)
theorem num4_snoc (l : List UInt8) (b : UInt8) : num4 (l ++ [b]) = num4 l * 256 + b.toNat := by simp [num4]
theorem numK_succ (s : ByteArray) (k : Nat) (hk : k < s.size) : numK s (k + 1) = numK s k * 256 + (s.data[k]'hk).toNat := by
  unfold numK
  have hk' : k < s.data.toList.length := by rw [← Lib.size_eq]; exact hk
  rw [List.take_succ_eq_append_getElem hk', num4_snoc]
  rfl
theorem num4_lt' (l : List UInt8) : ∀ a : Nat, l.foldl (fun n b => n * 256 + b.toNat) a < (a + 1) * 256 ^ l.length := by
  induction l with
  | nil => intro a; simp
  | cons b l ih =>
    intro a
    have := b.toNat_lt
    refine Nat.lt_of_lt_of_le (ih _) ?_
    rw [List.length_cons, Nat.pow_succ, Nat.mul_comm (256 ^ l.length), ← Nat.mul_assoc]
    exact Nat.mul_le_mul_right _ (by show a * 256 + b.toNat + 1 ≤ _; omega)
theorem num4_lt (l : List UInt8) : num4 l < 256 ^ l.length := by
  have := num4_lt' l 0
  simpa [num4] using this
theorem numK_lt (s : ByteArray) (k : Nat) : numK s k < 256 ^ k := by
  refine Nat.lt_of_lt_of_le (num4_lt _) (Nat.pow_le_pow_right (by decide) ?_)
  simp
  omega
theorem wrap_small {x : Int} (h0 : 0 ≤ x) (h1 : x < 9223372036854775808) : IntKind.i64.wrap x = x := by
  have e : x % 2 ^ 64 = x := Int.emod_eq_of_lt h0 (by omega)
  simp only [IntKind.wrap, IntKind.bits, IntKind.signed, e]
  rw [if_neg]
  simp
  omega
theorem orByte (n : Nat) (b : UInt8) (h : n < 4294967296) : bits .or .i64 (IntKind.i64.wrap ((n : Int) * 256)) (IntKind.i64.wrap (b.toNat : Int)) = ((n * 256 + b.toNat : Nat) : Int) := by
  have hb := b.toNat_lt
  rw [wrap_small (by omega) (by omega), wrap_small (by omega) (by omega)]
  exact byteOr (x := n * 256) (by omega) (by omega) (by omega)
/-- What Unpack answers. -/
def unpackPg (s : ByteArray) : Pg × Int := if s.size = 224 then (let p : Pg := ⟨numK s 4, s.extract 4 s.size⟩; if p.right = true then (p, 0) else (Pg.none, 3)) else (Pg.none, 3)

set_option maxRecDepth 100000 in
theorem unpack_calls (s : ByteArray) (w : World) (hf : s.size ≤ 2 ^ 62) (res : Pg × Int) (hres : Hid (res = unpackPg s)) :
    Calls Try.prog 25 #[.string s] w fun e w' => e = .returned (.tuple #[.agg #[.int .i64 res.1.at_, .string res.1.data], .int .i64 res.2]) ∧ Chg NoB w w' := by
  have hr := hres.out
  unfold unpackPg at hr
  have hb3 : (w.alloc (.cells #[.int .i64 0, .string ⟨#[]⟩] 40)).heap[w.heap.size]? = some (.cells #[.int .i64 0, .string ⟨#[]⟩] 40 (0, 0)) := blk_new _ _
  by_cases h : s.size = 224
  · rw [if_pos h] at hr
    dsimp only at hr
    have hn : (s.size : Int) = 224 := by rw [h]; rfl
    obtain ⟨d, hd⟩ := named (s.extract 4 s.size)
    rw [← hd.out] at hr
    have HH := hid h
    clear h
    have hd2 : d.size = 220 := by rw [hd.out, ByteArray.size_extract, HH.out]; rfl
    go_enter Try.func25, Try.ntmps25
    go_wp2_with fail
    go_loopw [13] (fun i wr => ∃ k : Nat, k ≤ 4 ∧ i = .int .i64 k ∧ Hid (wr.heap[w.heap.size + 1]? = some (.cells #[.int .i64 (numK s k), .string d] 40 (0, 0)) ∧ Chg NoB w wr ∧ wr.heap[w.heap.size]? = some (.cells #[.int .i64 0, .string ⟨#[]⟩] 40 (0, 0)))) (fun i _ => 4 - (intOf i).toNat)
    case atStart =>
      refine ⟨0, by omega, rfl, hid ⟨?_, ((Chg.refl NoB w).alloc _).alloc _, blk_alloc (blk_new _ _) _⟩⟩
      rw [hd.out]
      exact heap_alloc2_new _ _ _
    case round =>
      obtain ⟨k, hk, rfl, hI⟩ := hrel
      have hc0 : wr.cell? ⟨w.heap.size + 1, 0, none⟩ = some (.int .i64 (numK s k)) := cell_blk hI.out.1 0
      by_cases hlt : k < 4
      · have hks : k < s.size := by omega
        have hk9 : (k : Int) < 224 := by omega
        go_upto_region 7 with fail
        refine wp_region_ord 9 (.rd 0 (.rd 1 (.rd 2 (.rd 3 (.rd 4 (.rd 5 (.rd 6 (.rd 7 (.rd 8 (.one 9 (.done))))))))))) (Same wr) (by kernel_rfl) (by kernel_rfl) (by kernel_rfl) (by kernel_rfl) (by kernel_rfl) (fun _ _ d _ _ h => by cases d <;> exact h) (Same.of (Chg.refl _ _).drew) (fun hS0 => ?_)
        refine wpOrd_rd rfl rfl (by first | decide | simp) (by assumption) (fun w' hw' K hK => by ((try unfold Same at hw'); (try go_split_ands); go_simp; exact hK)) ?_
        refine wpOrd_rd rfl rfl (by first | decide | simp) (by assumption) (fun w' hw' K hK => by ((try unfold Same at hw'); (try go_split_ands); go_simp; exact hK)) ?_
        refine wpOrd_rd rfl rfl (by first | decide | simp) (by assumption) (fun w' hw' K hK => by ((try unfold Same at hw'); (try go_split_ands); go_simp; exact hK)) ?_
        refine wpOrd_rd rfl rfl (by first | decide | simp) (by assumption) (fun w' hw' K hK => by ((try unfold Same at hw'); (try go_split_ands); go_simp; exact hK)) ?_
        refine wpOrd_rd rfl rfl (by first | decide | simp) (by assumption) (fun w' hw' K hK => by ((try unfold Same at hw'); (try go_split_ands); go_simp; exact hK)) ?_
        refine wpOrd_rd rfl rfl (by first | decide | simp) (by assumption) (fun w' hw' K hK => by ((try unfold Same at hw'); (try go_split_ands); go_simp; exact hK)) ?_
        refine wpOrd_rd rfl rfl (by first | decide | simp) (by assumption) (fun w' hw' K hK => by ((try unfold Same at hw'); (try go_split_ands); go_simp; exact hK)) ?_
        refine wpOrd_rd rfl rfl (by first | decide | simp) (by assumption) (fun w' hw' K hK => by ((try unfold Same at hw'); (try go_split_ands); go_simp; exact hK)) ?_
        refine wpOrd_rd rfl rfl (by first | decide | simp) (by assumption) (fun w' hw' K hK => by ((try unfold Same at hw'); (try go_split_ands); go_simp; exact hK)) ?_
        refine wpOrd_do rfl ?_
        refine step_store1 (v := .int .i64 (bits .or .i64 (IntKind.i64.wrap ((numK s k : Nat) * 256)) (IntKind.i64.wrap (s[k]'hks).toNat))) rfl rfl (w.heap.size + 1) 0 rfl rfl rfl rfl (cs := [.int .i64 (numK s k), .string d]) (show (World.drew wr).heap[w.heap.size + 1]? = _ from hI.out.1) (by simp) (by kernel_rfl) ?_; intro w5 hb5 hc5 hs5
        (try dsimp only [Act.put])
        refine wpOrd_last ?_
        refine wpOrd_nil ?_
        have hor := orByte (numK s k) (s[k]'hks) (by have := numK_lt s k; have : 256 ^ k ≤ 256 ^ 3 := Nat.pow_le_pow_right (by decide) (by omega); omega)
        rw [hor, show numK s k * 256 + (s[k]'hks).toNat = numK s (k + 1) from (numK_succ s k hks).symm] at hb5
        have HB5 := hid hb5
        clear hb5 hor
        have HC5 := hid hc5
        clear hc5
        go_wp2_with fail
        go_roundw
        case rel => exact ⟨k + 1, by omega, by go_num, hid ⟨HB5.out, hI.out.2.1.drew.new HC5.out (fun i x => by have h' : i = w.heap.size + 1 := x; omega), HC5.out.heap hI.out.2.2 (fun x => by have h' : w.heap.size = w.heap.size + 1 := x; omega)⟩⟩
        case measure => simp [intOf]; omega
      · obtain rfl : k = 4 := by omega
        obtain ⟨q, hq⟩ : ∃ q : Pg, Hid (q = ⟨(numK s 4 : Nat), d⟩) := ⟨_, hid rfl⟩
        obtain ⟨f, hfr⟩ := named q.right
        rw [← hq.out, ← hfr.out] at hr
        have HR := hid hr
        clear hr
        have e0 : ((numK s 4 : Nat) : Int) = q.at_ := by rw [hq.out]
        have e1 : d = q.data := by rw [hq.out]
        have hqd : q.data.size ≤ 2 ^ 62 := by rw [← e1]; omega
        rw [e0, e1] at hI
        have hbq := hI.out.1
        have hb0 := hI.out.2.2
        cases f
        · go_wp2_with (first
            | ((fail_if_success (fail_if_success (with_reducible change wpList _ _ _ (Oper.mk _ (.load 40 _) _ _ _ _ :: _) _ _))); refine step_loadRow rfl rfl (w.heap.size + 1) rfl hbq Try.underlying40 (by kernel_rfl) ?_)
            | (go_at_call 36; refine (right_calls q _ _ hfr hqd).mono ?_; rintro e w6 ⟨rfl, hc6⟩; have hb6 := hc6.heap hb0 nob)
            | ((fail_if_success (fail_if_success (with_reducible change wpList _ _ _ (Oper.mk _ (.store 40 _ _) _ _ _ _ :: _) _ _))); refine step_storeRow rfl rfl w.heap.size rfl rfl hb6 (by kernel_rfl) rfl (by simp [Value.oneCell']) ?_; intro w3 hb4 hc4 hs4))
          refine bodyPost_ret (res_row2 Try.underlying40 rfl _ _ w.heap.size rfl hb4 (by kernel_rfl)) rfl ?_
          refine ⟨by rw [HR.out]; rfl, (hI.out.2.1.trans' hc6).new hc4 (fun i x => by have h' : i = w.heap.size := x; omega)⟩
        · go_wp2_with (first
            | (go_at_call 36; refine (right_calls q _ _ hfr hqd).mono ?_; rintro e w6 ⟨rfl, hc6⟩; have hb6 := hc6.heap hb0 nob; have hbq6 := hc6.heap hbq nob)
            | ((fail_if_success (fail_if_success (with_reducible change wpList _ _ _ (Oper.mk _ (.load 40 _) _ _ _ _ :: _) _ _))); refine step_loadRow rfl rfl (w.heap.size + 1) rfl (by first | exact hbq | exact hbq6) Try.underlying40 (by kernel_rfl) ?_)
            | ((fail_if_success (fail_if_success (with_reducible change wpList _ _ _ (Oper.mk _ (.store 40 _ _) _ _ _ _ :: _) _ _))); refine step_storeRow rfl rfl w.heap.size rfl rfl hb6 (by kernel_rfl) rfl (by simp [Value.oneCell']) ?_; intro w3 hb4 hc4 hs4))
          refine bodyPost_ret (res_row2 Try.underlying40 rfl _ _ w.heap.size rfl hb4 (by kernel_rfl)) rfl ?_
          refine ⟨by rw [HR.out]; rfl, (hI.out.2.1.trans' hc6).new hc4 (fun i x => by have h' : i = w.heap.size := x; omega)⟩
  · rw [if_neg h] at hr
    subst hr
    have hn : ¬ (s.size : Int) = 224 := by omega
    go_enter Try.func25, Try.ntmps25
    go_wp2_with ((fail_if_success (fail_if_success (with_reducible change wpList _ _ _ (Oper.mk _ (.store 40 _ _) _ _ _ _ :: _) _ _))); refine step_storeRow rfl rfl w.heap.size rfl rfl hb3 (by kernel_rfl) rfl (by simp [Value.oneCell']) ?_; intro w3 hb4 hc4 hs4)
    refine bodyPost_ret (res_row2 Try.underlying40 rfl _ _ w.heap.size rfl hb4 (by kernel_rfl)) rfl ?_
    exact ⟨rfl, ((Chg.refl NoB w).alloc _).new hc4 (fun i x => by have h' : i = w.heap.size := x; omega)⟩
end Go.Proofs.Ytghklbflbodajaa
