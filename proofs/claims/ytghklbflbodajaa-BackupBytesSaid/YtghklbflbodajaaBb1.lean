import Derived.Test.YtghklbflbodajaaA7
import Derived.Test.YtghklbflbodajaaBld
namespace Go.Proofs.Ytghklbflbodajaa
open Go.RowKit Go.ChangeMaps Go.MapKept
attribute [local go_sem] Go.Oper.rdK
set_option linter.unusedVariables false
set_option linter.unusedSimpArgs false
set_option linter.unnecessarySimpa false
set_option maxHeartbeats 8000000

/-! ### the references' numbers and pages -/
theorem u32_wrap (x : Int) : IntKind.u32.wrap x = x % 4294967296 := by
  simp only [IntKind.wrap, IntKind.bits, IntKind.signed]
  simp
theorem u8_wrap (x : Int) : IntKind.u8.wrap x = x % 256 := by
  simp only [IntKind.wrap, IntKind.bits, IntKind.signed]
  simp
theorem num_u32 (s : ByteArray) (h0 : 0 < s.size) (h1 : 1 < s.size) (h2 : 2 < s.size) (h3 : 3 < s.size) :
    IntKind.u32.wrap (IntKind.u32.wrap (IntKind.u32.wrap (IntKind.u32.wrap (IntKind.u32.wrap (s[0]'h0).toNat * 16777216) + IntKind.u32.wrap (IntKind.u32.wrap (s[1]'h1).toNat * 65536)) + IntKind.u32.wrap (IntKind.u32.wrap (s[2]'h2).toNat * 256)) + IntKind.u32.wrap (s[3]'h3).toNat) = (numK s 4 : Nat) := by
  have e : numK s 4 = (((s.data[0]'h0).toNat * 256 + (s.data[1]'h1).toNat) * 256 + (s.data[2]'h2).toNat) * 256 + (s.data[3]'h3).toNat := by
    rw [numK_succ s 3 h3, numK_succ s 2 h2, numK_succ s 1 h1, numK_succ s 0 h0]
    simp [numK, num4]
  have i0 : (s[0]'h0) = s.data[0]'h0 := rfl
  have i1 : (s[1]'h1) = s.data[1]'h1 := rfl
  have i2 : (s[2]'h2) = s.data[2]'h2 := rfl
  have i3 : (s[3]'h3) = s.data[3]'h3 := rfl
  rw [e, i0, i1, i2, i3]
  have b0 := (s.data[0]'h0).toNat_lt
  have b1 := (s.data[1]'h1).toNat_lt
  have b2 := (s.data[2]'h2).toNat_lt
  have b3 := (s.data[3]'h3).toNat_lt
  generalize (s.data[0]'h0).toNat = x0 at *
  generalize (s.data[1]'h1).toNat = x1 at *
  generalize (s.data[2]'h2).toNat = x2 at *
  generalize (s.data[3]'h3).toNat = x3 at *
  simp only [u32_wrap]
  omega
set_option maxRecDepth 100000 in
theorem qRight_calls (p : Pg) (w : World) (res : Bool) (hres : Hid (res = p.right)) (hf : p.data.size ≤ 2 ^ 62) :
    Calls Try.prog 37 #[.agg #[.int .i64 p.at_, .string p.data]] w fun e w' => e = .returned (.bool res) ∧ Chg NoB w w' := by
  obtain ⟨n1, h1⟩ := named p.data.size
  go_enter Try.func37, Try.ntmps37
  go_wp2
  all_goals go_ret
  all_goals exact ⟨ret_bool (by rw [hres.out]; simp only [Pg.right]; rw [Bool.eq_iff_iff]; simp; omega), (Chg.refl _ _).alloc _⟩
set_option maxRecDepth 100000 in
theorem qNumber_calls (s : ByteArray) (w : World) (h4 : 4 ≤ s.size) (hf : s.size ≤ 2 ^ 62) :
    Calls Try.prog 27 #[.string s] w fun e w' => e = .returned (.int .u32 (numK s 4)) ∧ Chg NoB w w' := by
  have g0 : (0 : Int) < (s.size : Int) := by omega
  have g1 : (1 : Int) < (s.size : Int) := by omega
  have g2 : (2 : Int) < (s.size : Int) := by omega
  have g3 : (3 : Int) < (s.size : Int) := by omega
  have k0 : 0 < s.size := by omega
  have k1 : 1 < s.size := by omega
  have k2 : 2 < s.size := by omega
  have k3 : 3 < s.size := by omega
  go_enter Try.func27, Try.ntmps27
  go_upto_region 1 with fail
  refine wp_region_ord 19 (.rd 0 (.rd 1 (.rd 2 (.rd 3 (.rd 4 (.rd 5 (.rd 6 (.rd 7 (.rd 8 (.rd 9 (.rd 10 (.rd 11 (.rd 12 (.rd 13 (.rd 14 (.rd 15 (.rd 16 (.rd 17 (.rd 18 (.done)))))))))))))))))))) (Same w) (by kernel_rfl) (by kernel_rfl) (by kernel_rfl) (by kernel_rfl) (by kernel_rfl) (fun _ _ d _ _ h => by cases d <;> exact h) (Same.of (Chg.refl _ _).drew) (fun hS0 => ?_)
  refine wpOrd_rd rfl rfl (by first | decide | simp) (by assumption) (fun w' hw' K hK => by ((try unfold Same at hw'); (try go_split_ands); go_simp; exact hK)) ?_
  refine wpOrd_rd rfl rfl (by first | decide | simp) (by assumption) (fun w' hw' K hK => by ((try unfold Same at hw'); (try go_split_ands); go_simp; exact hK)) ?_
  refine wpOrd_rd rfl rfl (by first | decide | simp) (by assumption) (fun w' hw' K hK => by ((try unfold Same at hw'); (try go_split_ands); go_simp; exact hK)) ?_
  refine wpOrd_rd rfl rfl (by first | decide | simp) (by assumption) (fun w' hw' K hK => by ((try unfold Same at hw'); (try go_split_ands); go_simp; exact hK)) ?_
  refine wpOrd_rd rfl rfl (by first | decide | simp) (by assumption) (fun w' hw' K hK => by ((try unfold Same at hw'); (try go_split_ands); go_simp; exact hK)) ?_
  refine wpOrd_rd rfl rfl (by first | decide | simp) (by assumption) (fun w' hw' K hK => by ((try unfold Same at hw'); (try go_split_ands); go_simp; exact hK)) ?_
  refine wpOrd_rd rfl rfl (by first | decide | simp) (by assumption) (fun w' hw' K hK => by ((try unfold Same at hw'); (try go_split_ands); go_simp; exact hK)) ?_
  refine wpOrd_rd rfl rfl (by first | decide | simp) (by assumption) (fun w' hw' K hK => by ((try unfold Same at hw'); (try go_split_ands); go_simp; exact hK)) ?_
  refine wpOrd_rd rfl rfl (by first | decide | simp) (by assumption) (fun w' hw' K hK => by ((try unfold Same at hw'); (try go_split_ands); go_simp; exact hK)) ?_
  refine wpOrd_rd rfl rfl (by first | decide | simp) (by assumption) (fun w' hw' K hK => by ((try unfold Same at hw'); (try go_split_ands); go_simp; exact hK)) ?_
  refine wpOrd_rd rfl rfl (by first | decide | simp) (by assumption) (fun w' hw' K hK => by ((try unfold Same at hw'); (try go_split_ands); go_simp; exact hK)) ?_
  refine wpOrd_rd rfl rfl (by first | decide | simp) (by assumption) (fun w' hw' K hK => by ((try unfold Same at hw'); (try go_split_ands); go_simp; exact hK)) ?_
  refine wpOrd_rd rfl rfl (by first | decide | simp) (by assumption) (fun w' hw' K hK => by ((try unfold Same at hw'); (try go_split_ands); go_simp; exact hK)) ?_
  refine wpOrd_rd rfl rfl (by first | decide | simp) (by assumption) (fun w' hw' K hK => by ((try unfold Same at hw'); (try go_split_ands); go_simp; exact hK)) ?_
  refine wpOrd_rd rfl rfl (by first | decide | simp) (by assumption) (fun w' hw' K hK => by ((try unfold Same at hw'); (try go_split_ands); go_simp; exact hK)) ?_
  refine wpOrd_rd rfl rfl (by first | decide | simp) (by assumption) (fun w' hw' K hK => by ((try unfold Same at hw'); (try go_split_ands); go_simp; exact hK)) ?_
  refine wpOrd_rd rfl rfl (by first | decide | simp) (by assumption) (fun w' hw' K hK => by ((try unfold Same at hw'); (try go_split_ands); go_simp; exact hK)) ?_
  refine wpOrd_rd rfl rfl (by first | decide | simp) (by assumption) (fun w' hw' K hK => by ((try unfold Same at hw'); (try go_split_ands); go_simp; exact hK)) ?_
  refine wpOrd_rd rfl rfl (by first | decide | simp) (by assumption) (fun w' hw' K hK => by ((try unfold Same at hw'); (try go_split_ands); go_simp; exact hK)) ?_
  refine wpOrd_nil ?_
  go_wp2_with fail
  go_ret
  refine ⟨congrArg (fun x => Ending.returned (.int .u32 x)) (num_u32 s k0 k1 k2 k3), (Chg.refl NoB w).drew⟩
theorem be4_block (w : World) (n : Nat) (hn : n < 4294967296) : BytesAt (w.alloc (.cells #[.int .u8 ((n : Int) / 16777216), .int .u8 ((n : Int) / 65536 % 256), .int .u8 ((n : Int) / 256 % 256), .int .u8 ((n : Int) % 256)] 5)) w.heap.size 5 (be4 n) := by
  unfold BytesAt
  rw [blk_new]
  congr 2
  have e : ∀ (i : Nat) (x : Int), x = (n / 2 ^ (24 - 8 * i) % 256 : Nat) → (Value.int .u8 x) = .int .u8 ((b4 n i).toNat : Nat) := fun i x h => by rw [h, b4_nat]
  rw [e 0 ((n : Int) / 16777216) (by simp only [Nat.reduceMul, Nat.reduceSub, Nat.reducePow]; omega), e 1 ((n : Int) / 65536 % 256) (by simp only [Nat.reduceMul, Nat.reduceSub, Nat.reducePow]; omega), e 2 ((n : Int) / 256 % 256) (by simp only [Nat.reduceMul, Nat.reduceSub, Nat.reducePow]; omega), e 3 ((n : Int) % 256) (by simp only [Nat.reduceMul, Nat.reduceSub, Nat.reducePow]; omega)]
  rfl
set_option maxRecDepth 100000 in
theorem qFour_calls (n : Nat) (w : World) (hn : n < 4294967296) :
    Calls Try.prog 34 #[.int .u32 n] w fun e w' => e = .returned (.string ⟨(be4 n).toArray⟩) ∧ Chg NoB w w' := by
  have hbb := be4_block w n hn
  go_enter Try.func34, Try.ntmps34
  go_wp2_with ((fail_if_success (fail_if_success (with_reducible change wpList _ _ _ (Oper.mk _ (.convert 64 _ _) _ _ _ _ :: _) _ _))); refine step_convS rfl _ _ _ _ rfl Try.underlying64 Try.underlying5 Try.underlying9 hbb 4 4 rfl rfl ?_)
  go_ret
  exact ⟨rfl, (Chg.refl NoB w).alloc _⟩
/-- The reference's Pack of a right page. -/
def qPack (p : Pg) : ByteArray := ⟨(be4 p.at_.toNat ++ p.data.data.toList).toArray⟩
set_option maxRecDepth 100000 in
theorem qPack_calls (p : Pg) (w : World) (hp : p.right = true) :
    Calls Try.prog 35 #[.agg #[.int .i64 p.at_, .string p.data]] w fun e w' => e = .returned (.string (qPack p)) ∧ Chg NoB w w' := by
  have hsz : Hid (p.data.size = 220) := hid (by have := hp; simp [Pg.right] at this; exact this.2.2)
  have hat : 0 ≤ p.at_ ∧ p.at_ ≤ 2147483647 := by have := hp; simp [Pg.right] at this; exact ⟨this.1, this.2.1⟩
  clear hp
  obtain ⟨pa, d⟩ := p
  simp only at hat hsz ⊢
  obtain ⟨n, rfl⟩ : ∃ n : Nat, pa = n := Int.eq_ofNat_of_zero_le hat.1
  have hn2 : n ≤ 2147483647 := by omega
  clear hat
  have hwr : IntKind.u32.wrap (n : Int) = n := by rw [u32_wrap]; omega
  have hB : Hid ((w.alloc (.cells #[.int .i64 n, .string d] 40)).heap[w.heap.size]? = some (.cells #[.int .i64 n, .string d] 40 (0, 0))) := hid (blk_new _ _)
  have hC : Hid (Chg NoB w (w.alloc (.cells #[.int .i64 n, .string d] 40))) := hid ((Chg.refl NoB w).alloc _)
  go_enter Try.func35, Try.ntmps35
  go_upto_region 1 with fail
  refine wp_gen (fun W => Chg NoB w W ∧ W.heap[w.heap.size]? = some (.cells #[.int .i64 n, .string d] 40 (0, 0))) ⟨hC.out, hB.out⟩ ?_
  rintro W ⟨hcW, hbW⟩
  have c0 : W.cell? ⟨w.heap.size, 0, none⟩ = some (.int .i64 n) := by rw [cell_blk hbW]; rfl
  have c1 : W.cell? ⟨w.heap.size, 1, none⟩ = some (.string d) := by rw [cell_blk hbW]; rfl
  have HW := hid hcW
  clear hcW hbW hB hC
  have hl9 : ¬ (9223372036854775807 < (be4 n).length + d.size) := by rw [hsz.out]; simp [be4]
  refine wp_region_ord 8 (.rd 0 (.rd 1 (.rd 2 (.rd 4 (.rd 5 (.one 3 (.rd 6 (.rd 7 (.done))))))))) (Same W) (by kernel_rfl) (by kernel_rfl) (by kernel_rfl) (by kernel_rfl) (by kernel_rfl) (fun _ _ d _ _ h => by cases d <;> exact h) (Same.of (Chg.refl _ _).drew) (fun hS0 => ?_)
  refine wpOrd_rd rfl rfl (by first | decide | simp) (by assumption) (fun w' hw' K hK => by ((try unfold Same at hw'); (try go_split_ands); go_simp; exact hK)) ?_
  refine wpOrd_rd rfl rfl (by first | decide | simp) (by assumption) (fun w' hw' K hK => by ((try unfold Same at hw'); (try go_split_ands); go_simp; exact hK)) ?_
  refine wpOrd_rd rfl rfl (by first | decide | simp) (by assumption) (fun w' hw' K hK => by ((try unfold Same at hw'); (try go_split_ands); go_simp; exact hK)) ?_
  refine wpOrd_rd rfl rfl (by first | decide | simp) (by assumption) (fun w' hw' K hK => by ((try unfold Same at hw'); (try go_split_ands); go_simp; exact hK)) ?_
  refine wpOrd_rd rfl rfl (by first | decide | simp) (by assumption) (fun w' hw' K hK => by ((try unfold Same at hw'); (try go_split_ands); go_simp; exact hK)) ?_
  refine wpOrd_do rfl ?_
  (first | refine wpList_plain rfl (fun K hK => ?_) | refine wpList_step (fun K hK => ?_))
  go_simp
  ((with_reducible refine (qFour_calls n _ (by omega)).mono ?_); rintro e w2 ⟨rfl, hc2⟩)
  refine hK _ _ ?_
  clear hK K
  (try dsimp only [Act.put])
  refine wpOrd_done (Same.of ((Chg.refl NoB W).drew.trans' hc2)) (fun hS1 => ?_)
  refine wpOrd_rd rfl rfl (by first | decide | simp) (by assumption) (fun w' hw' K hK => by ((try unfold Same at hw'); (try go_split_ands); go_simp; exact hK)) ?_
  refine wpOrd_rd rfl rfl (by first | decide | simp) (by assumption) (fun w' hw' K hK => by ((try unfold Same at hw'); (try go_split_ands); go_simp; exact hK)) ?_
  refine wpOrd_nil ?_
  go_wp2_with fail
  go_ret
  refine ⟨?_, HW.out.trans' ((Chg.refl NoB W).drew.trans' hc2)⟩
  refine congrArg (fun x => Ending.returned (.string x)) ?_
  show _ = qPack ⟨(n : Int), d⟩
  unfold qPack
  apply ByteArray.ext
  rw [ByteArray.data_append]
  apply Array.toList_inj.1
  simp
set_option maxRecDepth 100000 in
theorem qUnpack_calls (s : ByteArray) (w : World) (hf : s.size ≤ 2 ^ 62) (res : Pg × Int) (hres : Hid (res = unpackPg s)) (b : Bool) (hb : Hid (b = decide (res.2 = 0))) :
    Calls Try.prog 26 #[.string s] w fun e w' => e = .returned (.tuple #[.agg #[.int .i64 res.1.at_, .string res.1.data], .bool b]) ∧ Chg NoB w w' := by
  have hr := hres.out
  unfold unpackPg at hr
  have hb3 : (w.alloc (.cells #[.int .i64 0, .string ⟨#[]⟩] 40)).heap[w.heap.size]? = some (.cells #[.int .i64 0, .string ⟨#[]⟩] 40 (0, 0)) := blk_new _ _
  by_cases h : s.size = 224
  · rw [if_pos h] at hr
    dsimp only at hr
    have hn : (s.size : Int) = 224 := by rw [h]; rfl
    have h4 : (4 : Int) ≤ (s.size : Int) := by omega
    have h4' : 4 ≤ s.size := by omega
    obtain ⟨d, hd⟩ := named (s.extract 4 s.size)
    rw [← hd.out] at hr
    have HH := hid h
    clear h
    have hd2 : d.size = 220 := by rw [hd.out, ByteArray.size_extract, HH.out]; rfl
    obtain ⟨N, hN⟩ := named (numK s 4)
    have hNl : N < 4294967296 := by rw [hN.out]; exact numK_lt s 4
    rw [← hN.out] at hr
    have hnum := fun w => qNumber_calls s w h4' hf
    rw [← hN.out] at hnum
    obtain ⟨q, hq⟩ : ∃ q : Pg, Hid (q = ⟨(N : Nat), d⟩) := ⟨_, hid rfl⟩
    obtain ⟨f, hfr⟩ := named q.right
    rw [← hq.out, ← hfr.out] at hr
    have HR := hid hr
    have e0 : Hid ((N : Int) = q.at_) := hid (by rw [hq.out])
    have e1 : Hid (d = q.data) := hid (by rw [hq.out])
    have hqd : q.data.size ≤ 2 ^ 62 := by rw [← e1.out]; omega
    have hwn : IntKind.i64.wrap (N : Int) = (N : Int) := wrap_small (by omega) (by omega)
    clear hr
    go_enter Try.func26, Try.ntmps26
    go_upto_region 3 with fail
    refine wp_gen (fun W => Chg NoB w W ∧ W.heap[w.heap.size]? = some (.cells #[.int .i64 0, .string ⟨#[]⟩] 40 (0, 0))) ⟨(Chg.refl NoB w).alloc _, hb3⟩ ?_
    rintro W ⟨hcW, hbW⟩
    have HW := hid (show _ ∧ _ from ⟨hcW, hbW⟩)
    clear hcW hbW hb3
    go_cut [4] (fun s4 wx => ∃ h : Nat, s4 = .pointer (some ⟨h, 0, none⟩) ∧ Hid (Chg NoB w wx ∧ wx.heap[h]? = some (.cells #[.int .i64 q.at_, .string q.data] 40 (0, 0)) ∧ wx.heap[w.heap.size]? = some (.cells #[.int .i64 0, .string ⟨#[]⟩] 40 (0, 0))))
    case first =>
      refine wp_region_ord 7 (.rd 0 (.rd 3 (.rd 4 (.two 1 (.rd 2 (.rd 5 (.one 6 (.one 7 (.done))))) 6 (.one 1 (.rd 2 (.rd 5 (.one 7 (.done))))))))) (Same W) (by kernel_rfl) (by kernel_rfl) (by kernel_rfl) (by kernel_rfl) (by kernel_rfl) (fun _ _ d _ _ h => by cases d <;> exact h) (Same.of (Chg.refl _ _).drew) (fun hS0 => ?_)
      refine wpOrd_rd rfl rfl (by first | decide | simp) (by assumption) (fun w' hw' K hK => by ((try unfold Same at hw'); (try go_split_ands); go_simp; exact hK)) ?_
      refine wpOrd_rd rfl rfl (by first | decide | simp) (by assumption) (fun w' hw' K hK => by ((try unfold Same at hw'); (try go_split_ands); go_simp; exact hK)) ?_
      refine wpOrd_rd rfl rfl (by first | decide | simp) (by assumption) (fun w' hw' K hK => by ((try unfold Same at hw'); (try go_split_ands); go_simp; exact hK)) ?_
      refine wpOrd_two rfl rfl ?_ ?_
      · (first | refine wpList_plain rfl (fun K hK => ?_) | refine wpList_step (fun K hK => ?_))
        go_simp
        ((with_reducible refine (hnum _).mono ?_); rintro e w5 ⟨rfl, hc5⟩)
        refine hK _ _ ?_
        clear hK K
        (try dsimp only [Act.put])
        refine wpOrd_done (Same.of ((Chg.refl NoB W).drew.trans' hc5)) (fun hS1 => ?_)
        refine wpOrd_rd rfl rfl (by first | decide | simp) (by assumption) (fun w' hw' K hK => by ((try unfold Same at hw'); (try go_split_ands); go_simp; exact hK)) ?_
        refine wpOrd_rd rfl rfl (by first | decide | simp) (by assumption) (fun w' hw' K hK => by ((try unfold Same at hw'); (try go_split_ands); go_simp; exact hK)) ?_
        refine wpOrd_do rfl ?_
        (first | refine wpList_plain rfl (fun K hK => ?_) | refine wpList_step (fun K hK => ?_))
        go_simp
        refine hK _ _ ?_
        clear hK K
        (try dsimp only [Act.put])
        refine wpOrd_done (Same.of (((Chg.refl NoB W).drew.trans' hc5).alloc _)) (fun hS2 => ?_)
        refine wpOrd_do rfl ?_
        refine step_storeRow rfl rfl w5.heap.size rfl rfl (blk_new _ _) (by kernel_rfl) rfl (by simp [Value.oneCell']) ?_; intro w6 hb6 hc6 hs6; have hz5 := ((Chg.refl NoB W).drew.trans' hc5).size; have hc7 : Chg NoB W w6 := ((((Chg.refl NoB W).drew.trans' hc5).alloc _).new hc6 (fun i x => by have h' : i = w5.heap.size := x; omega))
        (try dsimp only [Act.put])
        refine wpOrd_last ?_
        refine wpOrd_nil ?_
        go_wp2_with fail
        go_meet
        exact ⟨w5.heap.size, rfl, hid ⟨HW.out.1.trans' hc7, by rw [← e0.out, ← e1.out, hd.out]; (try rw [hwn] at hb6); exact hb6, hc7.heap HW.out.2 nob⟩⟩
      · (first | refine wpList_plain rfl (fun K hK => ?_) | refine wpList_step (fun K hK => ?_))
        go_simp
        refine hK _ _ ?_
        clear hK K
        (try dsimp only [Act.put])
        refine wpOrd_done (Same.of ((Chg.refl NoB W).drew.alloc _)) (fun hS4 => ?_)
        refine wpOrd_do rfl ?_
        (first | refine wpList_plain rfl (fun K hK => ?_) | refine wpList_step (fun K hK => ?_))
        go_simp
        ((with_reducible refine (hnum _).mono ?_); rintro e w5 ⟨rfl, hc5⟩)
        refine hK _ _ ?_
        clear hK K
        (try dsimp only [Act.put])
        refine wpOrd_done (Same.of (((Chg.refl NoB W).drew.alloc _).trans' hc5)) (fun hS5 => ?_)
        refine wpOrd_rd rfl rfl (by first | decide | simp) (by assumption) (fun w' hw' K hK => by ((try unfold Same at hw'); (try go_split_ands); go_simp; exact hK)) ?_
        refine wpOrd_rd rfl rfl (by first | decide | simp) (by assumption) (fun w' hw' K hK => by ((try unfold Same at hw'); (try go_split_ands); go_simp; exact hK)) ?_
        refine wpOrd_do rfl ?_
        refine step_storeRow rfl rfl W.heap.size rfl rfl (hc5.heap (blk_new (World.drew W) _) nob) (by kernel_rfl) rfl (by simp [Value.oneCell']) ?_; intro w6 hb6 hc6 hs6; have hc7 : Chg NoB W w6 := ((((Chg.refl NoB W).drew.alloc _).trans' hc5).new hc6 (fun i x => by have h' : i = W.heap.size := x; omega))
        (try dsimp only [Act.put])
        refine wpOrd_last ?_
        refine wpOrd_nil ?_
        go_wp2_with fail
        go_meet
        exact ⟨W.heap.size, rfl, hid ⟨HW.out.1.trans' hc7, by rw [← e0.out, ← e1.out, hd.out]; (try rw [hwn] at hb6); exact hb6, hc7.heap HW.out.2 nob⟩⟩
    case rest =>
      obtain ⟨g, rfl, hcut⟩ := hcut
      have hbq := hcut.out.2.1
      have hb0 := hcut.out.2.2
      clear e0 e1
      cases f
      · go_wp2_with (first
          | ((fail_if_success (fail_if_success (with_reducible change wpList _ _ _ (Oper.mk _ (.load 40 _) _ _ _ _ :: _) _ _))); refine step_loadRow rfl rfl g rfl hbq Try.underlying40 (by kernel_rfl) ?_)
          | (go_at_call 37; refine (qRight_calls q _ _ hfr hqd).mono ?_; rintro e w6 ⟨rfl, hc6⟩; have hb6 := hc6.heap hb0 nob)
          | ((fail_if_success (fail_if_success (with_reducible change wpList _ _ _ (Oper.mk _ (.store 40 _ _) _ _ _ _ :: _) _ _))); refine step_storeRow rfl rfl w.heap.size rfl rfl hb6 (by kernel_rfl) rfl (by simp [Value.oneCell']) ?_; intro w3 hb4 hc4 hs4))
        refine bodyPost_ret (res_row2 Try.underlying40 rfl _ _ w.heap.size rfl hb4 (by kernel_rfl)) rfl ?_
        refine ⟨by rw [hb.out, HR.out]; rfl, (hcut.out.1.trans' hc6).new hc4 (fun i x => by have h' : i = w.heap.size := x; omega)⟩
      · go_wp2_with (first
          | (go_at_call 37; refine (qRight_calls q _ _ hfr hqd).mono ?_; rintro e w6 ⟨rfl, hc6⟩; have hb6 := hc6.heap hb0 nob; have hbq6 := hc6.heap hbq nob)
          | ((fail_if_success (fail_if_success (with_reducible change wpList _ _ _ (Oper.mk _ (.load 40 _) _ _ _ _ :: _) _ _))); refine step_loadRow rfl rfl g rfl (by first | exact hbq | exact hbq6) Try.underlying40 (by kernel_rfl) ?_)
          | ((fail_if_success (fail_if_success (with_reducible change wpList _ _ _ (Oper.mk _ (.store 40 _ _) _ _ _ _ :: _) _ _))); refine step_storeRow rfl rfl w.heap.size rfl rfl hb6 (by kernel_rfl) rfl (by simp [Value.oneCell']) ?_; intro w3 hb4 hc4 hs4))
        refine bodyPost_ret (res_row2 Try.underlying40 rfl _ _ w.heap.size rfl hb4 (by kernel_rfl)) rfl ?_
        refine ⟨by rw [hb.out, HR.out]; rfl, (hcut.out.1.trans' hc6).new hc4 (fun i x => by have h' : i = w.heap.size := x; omega)⟩
  · rw [if_neg h] at hr
    subst hr
    have hbf : b = false := by rw [hb.out]; rfl
    subst hbf
    have hn : ¬ (s.size : Int) = 224 := by omega
    go_enter Try.func26, Try.ntmps26
    go_wp2_with ((fail_if_success (fail_if_success (with_reducible change wpList _ _ _ (Oper.mk _ (.store 40 _ _) _ _ _ _ :: _) _ _))); refine step_storeRow rfl rfl w.heap.size rfl rfl hb3 (by kernel_rfl) rfl (by simp [Value.oneCell']) ?_; intro w3 hb4 hc4 hs4)
    refine bodyPost_ret (res_row2 Try.underlying40 rfl _ _ w.heap.size rfl hb4 (by kernel_rfl)) rfl ?_
    exact ⟨rfl, ((Chg.refl NoB w).alloc _).new hc4 (fun i x => by have h' : i = w.heap.size := x; omega)⟩
end Go.Proofs.Ytghklbflbodajaa
