import Derived.Test.YtghklbflbodajaaBk4
import Derived.Test.YtghklbflbodajaaBld
namespace Go.Proofs.Ytghklbflbodajaa
open Go.RowKit Go.ChangeMaps Go.MapKept
set_option linter.unusedVariables false
set_option linter.unusedSimpArgs false
set_option linter.unnecessarySimpa false
set_option maxHeartbeats 8000000

theorem ownBlk {w : World} {B : Nat} {e : TypeId} {size : Nat} {v : Value} {n : Nat} {xs : List Value} (h : w.ownsRow B e size v n xs) {k : Nat} (hk : OwnB v k) : ∃ cur, w.heap[k]? = some (.cells cur e (0, 0)) := by
  rcases h.2 with ⟨rfl, _⟩ | ⟨g, cap, cur, rfl, _, hg, _⟩
  · simp [OwnB, Value.ownBlock] at hk
  · have : g = k := by simpa [OwnB, Value.ownBlock] using hk
    subst this
    exact ⟨cur, hg⟩
theorem BdAt.not {T : TypeId} {w : World} {b base : Nat} {v : Value} {l : List UInt8} (h : BdAt T w b base v l) {k : Nat} {c : Array Value} {t : TypeId} {f : Nat × Nat} (hk : w.heap[k]? = some (.cells c t f)) (ht : t ≠ 5) : ¬ OwnB v k := fun e => by
  obtain ⟨cur, hc⟩ := ownBlk h.own e
  rw [hk] at hc
  cases hc
  exact ht rfl
/-- A builder that the call has made. -/
def ByI (T : TypeId) (w wr : World) (b : Nat) (out : List UInt8) : Prop := ∃ vv, BdAt T wr b w.heap.size vv out ∧ Chg NoB w wr ∧ w.heap.size ≤ b
theorem ByI.keep {T : TypeId} {w wr w' : World} {b : Nat} {out : List UInt8} (h : ByI T w wr b out) (hc : Chg NoB wr w') : ByI T w w' b out := by
  obtain ⟨vv, h1, h2, h3⟩ := h
  exact ⟨vv, h1.keep0 hc, h2.trans' hc, h3⟩
theorem ByI.base {T : TypeId} {w wr : World} {b : Nat} {out : List UInt8} (h : ByI T w wr b out) : Chg NoB w wr := by obtain ⟨vv, h1, h2, h3⟩ := h; exact h2
theorem ByI.byte {T : TypeId} {w wr : World} {b : Nat} {out : List UInt8} (hT : BdT T) (h : ByI T w wr b out) (x : UInt8) (n : Int) (hn : n = x.toNat) (hl : out.length ≤ 1000000) :
    Calls Try.prog 31 #[.pointer (some ⟨b, 0, none⟩), .int .u8 n] wr fun e w' => e = .returned .nilIface ∧ Hid (ByI T w w' b (out ++ [x])) ∧ Hid (∀ (k : Nat) (c : Array Value) (t : TypeId) (f : Nat × Nat), k ≠ b → t ≠ 5 → wr.heap[k]? = some (.cells c t f) → w'.heap[k]? = some (.cells c t f)) := by
  subst hn
  obtain ⟨vv, h1, h2, h3⟩ := h
  refine (writeByte_calls T hT b w.heap.size vv out x wr h1 hl h2.size).mono fun e w' ⟨he, v', a1, a2, a3⟩ => ⟨he, hid ⟨v', a1.out, h2.trans a2.out (fun i hi => .inr ?_), h3⟩, hid (fun k c t f hkb ht hk => a2.out.heap hk (fun e => ?_))⟩
  · rcases hi with rfl | hi
    · exact h3
    · exact (OwnB.ge h1.own i hi).1
  · rcases e with rfl | e
    · exact hkb rfl
    · exact h1.not hk ht e
theorem ByI.str {T : TypeId} {w wr : World} {b : Nat} {out : List UInt8} (hT : BdT T) (h : ByI T w wr b out) (x : ByteArray) (hl : out.length ≤ 1000000) (hx : x.size ≤ 1000000) :
    Calls Try.prog 30 #[.pointer (some ⟨b, 0, none⟩), .string x] wr fun e w' => e = .returned (.tuple #[.int .i64 x.size, .nilIface]) ∧ Hid (ByI T w w' b (out ++ x.data.toList)) ∧ Hid (∀ (k : Nat) (c : Array Value) (t : TypeId) (f : Nat × Nat), k ≠ b → t ≠ 5 → wr.heap[k]? = some (.cells c t f) → w'.heap[k]? = some (.cells c t f)) := by
  obtain ⟨vv, h1, h2, h3⟩ := h
  refine (writeString_calls T hT b w.heap.size vv out x wr h1 hl hx h2.size).mono fun e w' ⟨he, v', a1, a2, a3⟩ => ⟨he, hid ⟨v', a1.out, h2.trans a2.out (fun i hi => .inr ?_), h3⟩, hid (fun k c t f hkb ht hk => a2.out.heap hk (fun e => ?_))⟩
  · rcases hi with rfl | hi
    · exact h3
    · exact (OwnB.ge h1.own i hi).1
  · rcases e with rfl | e
    · exact hkb rfl
    · exact h1.not hk ht e
theorem ByI.done {T : TypeId} {w wr : World} {b : Nat} {out : List UInt8} (h : ByI T w wr b out) (h0 : out ≠ []) :
    Calls Try.prog 33 #[.pointer (some ⟨b, 0, none⟩)] wr fun e w' => e = .returned (.string ⟨out.toArray⟩) ∧ Chg NoB w w' := by
  obtain ⟨vv, h1, h2, h3⟩ := h
  exact (bString_calls T b w.heap.size vv out wr h1 h0).mono fun e w' ⟨he, hc⟩ => ⟨he, h2.trans hc fun i hi => .inr (OwnB.ge h1.own i hi).1⟩
theorem bdT : BdT 84 := by unfold BdT; kernel_rfl

def tkB (x : Tk) : List UInt8 := be4 x.at_.toNat ++ x.p.pack.1.data.toList
def bkOut (L : List Tk) (k : Nat) : List UInt8 := [66, 75, 80, 49] ++ [UInt8.ofNat L.length] ++ (L.take k).flatMap tkB
/-- What Bytes answers. -/
def bkBytes (L : List Tk) : ByteArray × Int := if bkWhole L = true then (⟨(bkOut L L.length).toArray⟩, 0) else (⟨#[]⟩, 11)
theorem be4_len (n : Nat) : (be4 n).length = 4 := rfl
theorem tkB_len {x : Tk} (h : x.p.data.size ≤ 220) : (tkB x).length ≤ 228 := by
  unfold tkB Pg.pack
  split
  · have : x.p.data.data.toList.length = x.p.data.size := (Lib.size_eq _).symm
    simp only [List.length_append, be4_len, List.toList_toArray]
    omega
  · simp [be4_len]
theorem bkOut_len {L : List Tk} (h : tkOk L) (h8 : L.length ≤ 8) (k : Nat) : (bkOut L k).length ≤ 2000 := by
  have key : ∀ (M : List Tk), (∀ x ∈ M, x.p.data.size ≤ 220) → (M.flatMap tkB).length ≤ 228 * M.length := by
    intro M
    induction M with
    | nil => intro _; simp
    | cons x M ih =>
      intro hM
      have h1 := ih fun y hy => hM y (List.mem_cons_of_mem _ hy)
      have h2 := tkB_len (hM x (List.mem_cons_self ..))
      rw [List.flatMap_cons, List.length_append, List.length_cons]
      omega
  have h1 := key (L.take k) fun x hx => (h x (List.mem_of_mem_take hx)).2.2
  have h2 : (L.take k).length ≤ 8 := by rw [List.length_take]; omega
  unfold bkOut
  simp only [List.length_append, List.length_cons, List.length_nil]
  omega
set_option maxRecDepth 100000 in
theorem bk_bytes_nil (w : World) : Calls Try.prog 10 #[.pointer none] w fun e w' => e = .returned (.tuple #[.string ⟨#[]⟩, .int .i64 10]) ∧ Chg NoB w w' := by
  go_enter Try.func10, Try.ntmps10
  go_wp2_with (go_at_call 29; refine (bk_ready_nil _).mono ?_; rintro e w1 ⟨rfl, hc1⟩)
  go_ret2
  exact ⟨rfl, hc1⟩
set_option maxRecDepth 100000 in
theorem bk_bytes_calls (p g : Nat) (L : List Tk) (w : World) (h : BkAt w p g L) (res : ByteArray × Int) (hres : Hid (res = bkBytes L)) :
    Calls Try.prog 10 #[.pointer (some ⟨p, 0, none⟩)] w fun e w' => e = .returned (.tuple #[.string res.1, .int .i64 res.2]) ∧ Chg NoB w w' := by
  have HB := hid h
  obtain ⟨rd, hrd⟩ := named (bkReady L)
  have h8 := h.len
  have hs := h.sl
  have hr := hres.out
  unfold bkBytes at hr
  clear h
  by_cases hw : bkWhole L = true
  · have hrd0 : rd = 0 := by rw [hrd.out]; unfold bkReady; rw [if_pos hw]
    subst hrd0
    rw [if_pos hw] at hr
    have hol := bkOut_len HB.out.ok h8.2
    have HOL := hid hol
    have hone : Hid ((UInt8.ofNat L.length).toNat = L.length) := hid (by simp; omega)
    clear hol
    go_enter Try.func10, Try.ntmps10
    go_upto_region 5 with (go_at_call 29; refine (bk_ready_calls p g L _ HB.out 0 hrd).mono ?_; rintro e w1 ⟨rfl, hc1⟩)
    refine wp_gen (fun W => ByI 84 w W w1.heap.size [] ∧ BkAt W p g L) ⟨⟨.slice none 0 0, ⟨⟨none, .inl rfl, blk_new _ _⟩, World.ownsRow_nil _ _ _ _, by simp [OwnB, Value.ownBlock]⟩, hc1.alloc _, hc1.size⟩, HB.out.mono (hc1.alloc _)⟩ ?_
    rintro W ⟨hI0, hB0⟩
    have HI0 := hid hI0
    have HB0 := hid hB0
    clear hI0 hB0
    go_upto_region 6 with (go_at_call 30; refine (HI0.out.str bdT ⟨#[66, 75, 80, 49]⟩ (by simp) (by decide)).mono ?_; rintro e w2 ⟨rfl, hI2, hk2⟩)
    have hB2 : BkAt w2 p g L := HB.out.mono hI2.out.base
    have hs2 := hB2.sl
    go_upto_region 8 with (go_at_call 31; refine (hI2.out.byte bdT (UInt8.ofNat L.length) _ (by rw [hone.out]) (by simp)).mono ?_; rintro e w3 ⟨rfl, hI3, hk3⟩; have hs3 := (HB.out.mono hI3.out.base).sl)
    have HI3 : Hid (ByI 84 w w3 w1.heap.size (bkOut L 0)) := hid (by simpa [bkOut] using hI3.out)
    clear hI3 hk3 hI2 hk2 hB2 hs2 hs3 hs
    go_loopw [29] (fun i wr => ∃ k : Nat, k ≤ L.length ∧ i = .int .i64 k ∧ Hid (ByI 84 w wr w1.heap.size (bkOut L k))) (fun i _ => L.length - (intOf i).toNat)
    case atStart => exact ⟨0, by omega, rfl, HI3⟩
    case round =>
      obtain ⟨k, hk, rfl, hI⟩ := hrel
      by_cases hlt : k < L.length
      · obtain ⟨x, hx⟩ := named L[k]
        obtain ⟨g0, g1, g2, g3⟩ := (HB.out.mono hI.out.base).cell hlt hx.out.symm
        have hok := HB.out.ok x (by rw [hx.out]; exact List.getElem_mem _)
        have hxh : x.has = true := by
          have := hw
          unfold bkWhole at this
          rw [List.all_eq_true] at this
          exact this x (by rw [hx.out]; exact List.getElem_mem _)
        obtain ⟨hrt, ha0, ha1⟩ := hok.1 hxh
        obtain ⟨a, ha⟩ := Int.eq_ofNat_of_zero_le ha0
        have hcs : Hid (∀ j v, (encTk x)[j]? = some v → wr.cell? ⟨g, k * 4 + j, none⟩ = some v) := hid (by
          intro j v hv
          match j, hv with
          | 0, hv => cases hv; exact g0
          | 1, hv => cases hv; exact g1
          | 2, hv => cases hv; exact g2
          | 3, hv => cases hv; exact g3)
        have hT : Hid (bkOut L (k + 1) = bkOut L k ++ be4 a ++ x.p.pack.1.data.toList) := hid (by unfold bkOut; rw [take_snoc' hlt, ← hx.out]; simp [tkB, ha])
        clear g0 g1 g2 g3
        have hbw : Hid (w1.heap.size < wr.heap.size) := hid (by obtain ⟨vv, h1, _, _⟩ := hI.out; exact h1.lt)
        go_upto_region 11 with (first
          | ((fail_if_success (fail_if_success (with_reducible change wpList _ _ _ (Oper.mk _ (.load 91 _) _ _ _ _ :: _) _ _))); refine step_loadAt rfl rfl g (k * 4) rfl (encTk x) hcs.out Try.underlying91 (by kernel_rfl) ?_)
          | ((fail_if_success (fail_if_success (with_reducible change wpList _ _ _ (Oper.mk _ (.store 91 _ _) _ _ _ _ :: _) _ _))); refine step_storeRow rfl rfl wr.heap.size rfl rfl (blk_new _ _) (by kernel_rfl) rfl (by simp [encTk, Value.oneCell']) ?_; intro w4 hb4 hc4 hs4))
        have hc5 : Chg NoB wr w4 := ((Chg.refl NoB wr).alloc _).new hc4 (fun i x => by have h' : i = wr.heap.size := x; omega)
        have HI4 := hid (hI.out.keep hc5)
        have HB4 := hid hb4
        have hbw' := hbw.out
        obtain ⟨tb, htb⟩ := named wr.heap.size
        rw [← htb.out] at HB4 hbw' ⊢
        clear hc4 hs4 hb4 hc5 hI hcs hbw htb
        rename World => wq
        go_loopw [8] (fun sh wr => ∃ j : Nat, j ≤ 4 ∧ sh = .int .i64 (24 - 8 * (j : Int)) ∧ Hid (ByI 84 w wr w1.heap.size (bkOut L k ++ (be4 a).take j) ∧ wr.heap[tb]? = some (.cells (encTk x).toArray 91 (0, 0)))) (fun sh _ => (intOf sh + 8).toNat)
        case atStart => exact ⟨0, by omega, rfl, hid ⟨by simpa using HI4.out, HB4.out⟩⟩
        case round =>
          obtain ⟨j, hj, rfl, hJ⟩ := hrel
          have c2 : wr.cell? ⟨tb, 3, none⟩ = some (.int .i64 a) := by rw [cell_blk hJ.out.2, ← ha]; rfl
          have hcase : j = 0 ∨ j = 1 ∨ j = 2 ∨ j = 3 ∨ j = 4 := by omega
          rcases hcase with rfl | rfl | rfl | rfl | rfl
          · go_wp2_with (go_at_call 31; refine (hJ.out.1.byte bdT (b4 a 0) _ (by rw [b4_nat]; simp only [Nat.reduceMul, Nat.reduceSub, Nat.reducePow]; omega) (by have := HOL.out k; simp [be4]; omega)).mono ?_; rintro e w5 ⟨rfl, hI5, hk5⟩)
            go_roundw
            case rel => exact ⟨0 + 1, by omega, by go_num, hid ⟨by have := hI5.out; simpa [be4, List.append_assoc] using this, hk5.out _ _ _ _ (by omega) (by decide) hJ.out.2⟩⟩
            case measure => simp [intOf]
          · go_wp2_with (go_at_call 31; refine (hJ.out.1.byte bdT (b4 a 1) _ (by rw [b4_nat]; simp only [Nat.reduceMul, Nat.reduceSub, Nat.reducePow]; omega) (by have := HOL.out k; simp [be4]; omega)).mono ?_; rintro e w5 ⟨rfl, hI5, hk5⟩)
            go_roundw
            case rel => exact ⟨1 + 1, by omega, by go_num, hid ⟨by have := hI5.out; simpa [be4, List.append_assoc] using this, hk5.out _ _ _ _ (by omega) (by decide) hJ.out.2⟩⟩
            case measure => simp [intOf]
          · go_wp2_with (go_at_call 31; refine (hJ.out.1.byte bdT (b4 a 2) _ (by rw [b4_nat]; simp only [Nat.reduceMul, Nat.reduceSub, Nat.reducePow]; omega) (by have := HOL.out k; simp [be4]; omega)).mono ?_; rintro e w5 ⟨rfl, hI5, hk5⟩)
            go_roundw
            case rel => exact ⟨2 + 1, by omega, by go_num, hid ⟨by have := hI5.out; simpa [be4, List.append_assoc] using this, hk5.out _ _ _ _ (by omega) (by decide) hJ.out.2⟩⟩
            case measure => simp [intOf]
          · go_wp2_with (go_at_call 31; refine (hJ.out.1.byte bdT (b4 a 3) _ (by rw [b4_nat]; simp only [Nat.reduceMul, Nat.reduceSub, Nat.reducePow]; omega) (by have := HOL.out k; simp [be4]; omega)).mono ?_; rintro e w5 ⟨rfl, hI5, hk5⟩)
            go_roundw
            case rel => exact ⟨3 + 1, by omega, by go_num, hid ⟨by have := hI5.out; simpa [be4, List.append_assoc] using this, hk5.out _ _ _ _ (by omega) (by decide) hJ.out.2⟩⟩
            case measure => simp [intOf]
          · have hcp : ∀ j v, (encP x.p)[j]? = some v → wr.cell? ⟨tb, 1 + j, none⟩ = some v := by
              intro j v hv
              rw [cell_blk hJ.out.2]
              match j, hv with
              | 0, hv => cases hv; rfl
              | 1, hv => cases hv; rfl
            obtain ⟨pk, hpk⟩ := named x.p.pack
            have hps : pk.1.size ≤ 1000000 := by
              rw [hpk.out]
              unfold Pg.pack
              rw [if_pos hrt]
              have h1 : x.p.data.data.toList.length = x.p.data.size := (Lib.size_eq _).symm
              have h2 := hok.2.2
              show (be4 x.p.at_.toNat ++ x.p.data.data.toList).toArray.size ≤ 1000000
              rw [List.size_toArray, List.length_append, be4_len]
              omega
            have hpd : x.p.data.size ≤ 2 ^ 62 := by have := hok.2.2; omega
            have HT4 : Hid ((bkOut L k ++ (be4 a).take 4).length ≤ 1000000) := hid (by have := HOL.out k; simp [be4]; omega)
            rw [← hpk.out] at hT
            go_wp2_with (first
              | ((fail_if_success (fail_if_success (with_reducible change wpList _ _ _ (Oper.mk _ (.load 40 _) _ _ _ _ :: _) _ _))); refine step_loadAt rfl rfl tb 1 rfl [.int .i64 x.p.at_, .string x.p.data] hcp Try.underlying40 (by kernel_rfl) ?_)
              | (go_at_call 32; refine (pack_calls x.p _ hpd pk hpk).mono ?_; rintro e w5 ⟨rfl, hc5⟩)
              | (go_at_call 30; refine ((hJ.out.1.keep hc5).str bdT pk.1 HT4.out hps).mono ?_; rintro e w6 ⟨rfl, hI6, hk6⟩))
            go_roundw
            case rel => exact ⟨k + 1, by omega, by go_num, hid (by rw [hT.out]; simpa [be4] using hI6.out)⟩
            case measure => simp [intOf] <;> omega
      · obtain rfl : k = L.length := by omega
        have hI9 := hid hI.out
        clear hI
        go_wp2_with (go_at_call 33; refine (hI9.out.done (by simp [bkOut])).mono ?_; rintro e w9 ⟨rfl, hc9⟩)
        go_ret2
        exact ⟨by rw [hr]; rfl, hc9⟩
  · have hrd0 : rd = 11 := by rw [hrd.out]; unfold bkReady; rw [if_neg hw]
    subst hrd0
    rw [if_neg hw] at hr
    subst hr
    go_enter Try.func10, Try.ntmps10
    go_wp2_with (go_at_call 29; refine (bk_ready_calls p g L _ HB.out 11 hrd).mono ?_; rintro e w1 ⟨rfl, hc1⟩)
    go_ret2
    exact ⟨rfl, hc1⟩
end Go.Proofs.Ytghklbflbodajaa
