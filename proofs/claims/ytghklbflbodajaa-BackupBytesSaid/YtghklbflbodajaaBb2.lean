import Derived.Test.YtghklbflbodajaaBb1
import Derived.Test.YtghklbflbodajaaBk7
import Derived.Test.YtghklbflbodajaaA3
namespace Go.Proofs.Ytghklbflbodajaa
open Go.RowKit Go.ChangeMaps Go.MapKept
attribute [local go_sem] Go.Oper.rdK
set_option linter.unusedVariables false
set_option linter.unusedSimpArgs false
set_option linter.unnecessarySimpa false
set_option maxHeartbeats 8000000

/-- A reference's backup that is read. -/
structure RbR (w : World) (p : Nat) (v : Value) (L : List Tk) : Prop where
  hd : w.heap[p]? = some (.cells #[v] 38 (0, 0))
  rd : Rd w 4 encTk v L
theorem RbR.mono {w w' : World} {p : Nat} {v : Value} {L : List Tk} (h : RbR w p v L) (hc : Chg NoB w w') : RbR w' p v L := ⟨hc.heap h.hd nob, h.rd.mono hc⟩
theorem RbR.hdc {w : World} {p : Nat} {v : Value} {L : List Tk} (h : RbR w p v L) : w.cell? ⟨p, 0, none⟩ = some v := by rw [cell_blk h.hd]; rfl
theorem Rd.tk_at {w : World} {a : Option Addr} {l : List Tk} (h : ∀ i x, l[i]? = some x → ∃ b off, a = some ⟨b, off, none⟩ ∧ ∀ j u, (encTk x)[j]? = some u → w.cell? ⟨b, off + i * 4 + j, none⟩ = some u) (k : Nat) (hk : k < l.length) :
    ∃ b off, a = some ⟨b, off, none⟩ ∧ ∀ j u, (encTk l[k])[j]? = some u → w.cell? ⟨b, off + k * 4 + j, none⟩ = some u := h k _ (List.getElem?_eq_getElem hk)

set_option maxRecDepth 100000 in
theorem qWhole_calls (p : Nat) (v : Value) (L : List Tk) (w : World) (h : RbR w p v L) (res : Bool) (hres : Hid (res = bkWhole L)) :
    Calls Try.prog 15 #[.pointer (some ⟨p, 0, none⟩)] w fun e w' => e = .returned (.bool res) ∧ Chg NoB w w' := by
  have hp := h.hdc
  obtain ⟨a, c, rfl, h1, h2, h3⟩ := h.rd
  have H := hid h
  have H3 := hid h3
  unfold maxLen at h2
  clear h3 h
  go_enter Try.func15, Try.ntmps15
  go_wp2
  go_loopw [3] (fun i wr => ∃ k : Nat, k ≤ L.length ∧ i = .int .i64 k ∧ wr = w ∧ Hid (∀ j (h : j < k) (h' : j < L.length), L[j].has = true)) (fun i _ => L.length - (intOf i).toNat)
  case atStart => exact ⟨0, by omega, rfl, rfl, hid (fun j h => by omega)⟩
  case round =>
    obtain ⟨k, hk, rfl, rfl, hI⟩ := hrel
    by_cases hlt : k < L.length
    · obtain ⟨b, off, rfl, hc⟩ := Rd.tk_at H3.out k hlt
      have c0 := hc 0 _ rfl
      simp only [Nat.add_zero] at c0
      obtain ⟨x, hx⟩ := named L[k].has
      rw [← hx.out] at c0
      cases x
      · go_wp2
        go_ret
        exact ⟨ret_bool (by rw [hres.out, eq_comm]; unfold bkWhole; rw [List.all_eq_false]; exact ⟨L[k], List.getElem_mem _, by rw [← hx.out]; decide⟩), Chg.refl _ _⟩
      · go_wp2
        go_roundw
        case rel => exact ⟨k + 1, by omega, by go_num, (by first | rfl | trivial), hid (fun j h h' => by
          by_cases hj : j < k
          · exact hI.out j hj h'
          · obtain rfl : j = k := by omega
            exact hx.out.symm)⟩
        case measure => simp [intOf] <;> omega
    · obtain rfl : k = L.length := by omega
      go_wp2
      go_ret
      exact ⟨ret_bool (by rw [hres.out, eq_comm]; unfold bkWhole; rw [List.all_eq_true]; intro x hx; obtain ⟨j, hj, rfl⟩ := List.mem_iff_getElem.1 hx; exact hI.out j hj hj), Chg.refl _ _⟩
/-- One byte, just laid. -/
theorem one_block (w : World) (x : UInt8) (n : Int) (hn : n = x.toNat) : BytesAt (w.alloc (.cells #[.int .u8 n] 5)) w.heap.size 5 [x] := by
  subst hn
  exact blk_new _ _
set_option maxRecDepth 100000 in
theorem qBytes_calls (p : Nat) (v : Value) (L : List Tk) (w : World) (h : RbR w p v L) (hw : bkWhole L = true) (hok : tkOk L) (h8 : L.length ≤ 8) (res : ByteArray) (hres : Hid (res = (bkBytes L).1)) :
    Calls Try.prog 11 #[.pointer (some ⟨p, 0, none⟩)] w fun e w' => e = .returned (.string res) ∧ Chg NoB w w' := by
  have hp := h.hdc
  have hr := hres.out
  unfold bkBytes at hr
  rw [if_pos hw] at hr
  have hall : Hid (∀ x ∈ L, x.p.right = true ∧ 0 ≤ x.at_ ∧ x.at_ ≤ 2147483647 ∧ x.p.data.size = 220) := hid (fun x hx => by
    unfold bkWhole at hw
    rw [List.all_eq_true] at hw
    have h1 := (hok x hx).1 (hw x hx)
    have h2 := h1.1
    simp [Pg.right] at h2
    exact ⟨h1.1, h1.2.1, h1.2.2, h2.2.2⟩)
  have HR := hid hr
  have hokk := hid hok
  clear hr hw hok
  obtain ⟨a, c, rfl, h1, h2, h3⟩ := h.rd
  have H := hid h
  have H3 := hid h3
  unfold maxLen at h2
  have hone : Hid ((UInt8.ofNat L.length).toNat = L.length) := hid (by simp; omega)
  have hwn : IntKind.u8.wrap (L.length : Int) = (L.length : Int) := by rw [u8_wrap]; omega
  have hob := fun w => one_block w (UInt8.ofNat L.length) (L.length : Int) (by rw [hone.out])
  clear h3 h
  go_enter Try.func11, Try.ntmps11
  go_upto_region 2 with ((fail_if_success (fail_if_success (with_reducible change wpList _ _ _ (Oper.mk _ (.convert 64 _ _) _ _ _ _ :: _) _ _))); refine step_convS rfl _ _ _ _ rfl Try.underlying64 Try.underlying5 Try.underlying9 (hob _) 1 1 rfl rfl ?_)
  refine wp_gen (fun W => Chg NoB w W) ((Chg.refl NoB w).alloc _) ?_
  intro W hcW
  have HW := hid hcW
  clear hcW hob hp
  go_upto_region 3 with fail
  go_loopw [3, 4] (fun s i wr => ∃ (k : Nat) (S : ByteArray), k ≤ L.length ∧ s = .string S ∧ i = .int .i64 k ∧ Hid (S = ⟨(bkOut L k).toArray⟩) ∧ Hid (Chg NoB w wr)) (fun _ i _ => L.length - (intOf i).toNat)
  case atStart => exact ⟨0, _, by omega, rfl, rfl, hid (by apply ByteArray.ext; apply Array.toList_inj.1; simp [bkOut]), HW⟩
  case round =>
    obtain ⟨k, S, hk, rfl, rfl, hS, hC⟩ := hrel
    have hR := H.out.mono hC.out
    have hp := hR.hdc
    by_cases hlt : k < L.length
    · obtain ⟨b, off, ha, hc⟩ := Rd.tk_at H3.out k hlt
      obtain ⟨x, hx⟩ := named L[k]
      rw [← hx.out] at hc
      subst ha
      have hx4 := hall.out x (by rw [hx.out]; exact List.getElem_mem _)
      obtain ⟨n, hn⟩ := Int.eq_ofNat_of_zero_le hx4.2.1
      have hn2 : n ≤ 2147483647 := by have := hx4.2.2.1; omega
      have hwr : IntKind.u32.wrap (n : Int) = n := by rw [u32_wrap]; omega
      have hc' := fun j u hu => hC.out.cell (hc j u hu) nob
      have c1 := hc' 1 _ rfl
      have c2 := hc' 2 _ rfl
      have c3 := hc' 3 _ rfl
      rw [hn] at c3
      obtain ⟨SA, hSA⟩ := named (⟨(be4 n).toArray⟩ : ByteArray)
      obtain ⟨SB, hSB⟩ := named (qPack x.p)
      have hfour := fun w => qFour_calls n w (by omega)
      have hpack := fun w => qPack_calls x.p w hx4.1
      rw [← hSA.out] at hfour
      rw [← hSB.out] at hpack
      have zA : SA.size = 4 := by rw [hSA.out]; rfl
      have zB : SB.size = 224 := by rw [hSB.out]; unfold qPack; show (be4 _ ++ _).toArray.size = _; rw [List.size_toArray, List.length_append, be4_len, ← Lib.size_eq, hx4.2.2.2]
      have zS : S.size ≤ 2000 := by rw [hS.out]; show (bkOut L k).toArray.size ≤ _; rw [List.size_toArray]; exact bkOut_len hokk.out h8 k
      have l1 : ¬ (9223372036854775807 < SA.size + SB.size) := by omega
      have l2 : ¬ (9223372036854775807 < S.size + (SA.size + SB.size)) := by omega
      have ZA := hid zA
      have ZB := hid zB
      have hT : Hid (bkOut L (k + 1) = bkOut L k ++ (be4 n ++ (qPack x.p).data.toList)) := hid (by unfold bkOut; rw [take_snoc' hlt, ← hx.out]; simp [tkB, hn, qPack, Pg.pack, hx4.1])
      clear zA zB hx4 hc hc'
      go_upto_region 5 with fail
      refine wp_region_ord 23 (.rd 0 (.rd 1 (.rd 2 (.rd 3 (.rd 4 (.rd 5 (.rd 6 (.rd 7 (.rd 8 (.rd 9 (.rd 11 (.rd 12 (.rd 13 (.rd 14 (.rd 15 (.rd 16 (.rd 17 (.rd 18 (.one 10 (.one 19 (.rd 20 (.rd 21 (.rd 22 (.done)))))))))))))))))))))))) (Same wr) (by kernel_rfl) (by kernel_rfl) (by kernel_rfl) (by kernel_rfl) (by kernel_rfl) (fun _ _ d _ _ h => by cases d <;> exact h) (Same.of (Chg.refl _ _).drew) (fun hS0 => ?_)
      refine wpOrd_rd rfl rfl (by first | decide | simp) (by assumption) (fun w' hw' K hK => by ((try unfold Same at hw'); (try go_split_ands); go_simp; exact hK)) ?_
      refine wpOrd_rd rfl rfl (by first | decide | simp) (by assumption) (fun w' hw' K hK => by ((try unfold Same at hw'); (try go_split_ands); go_simp; exact hK)) ?_
      refine wpOrd_rd rfl rfl (by first | decide | simp) (by assumption) (fun w' hw' K hK => by ((try unfold Same at hw'); (try go_split_ands); go_simp; exact hK)) ?_
      refine wpOrd_rd rfl rfl (by first | decide | simp) (by assumption) (fun w' hw' K hK => by ((try unfold Same at hw'); (try go_split_ands); go_simp; exact hK)) ?_
      refine wpOrd_rd rfl rfl (by first | decide | simp) (by assumption) (fun w' hw' K hK => by ((try unfold Same at hw'); (try go_split_ands); go_simp; exact hK)) ?_
      refine wpOrd_rd rfl rfl (by first | decide | simp) (by assumption) (fun w' hw' K hK => by ((try unfold Same at hw'); (try go_split_ands); go_simp; exact hK)) ?_
      refine wpOrd_rd rfl rfl (by first | decide | simp) (by assumption) (fun w' hw' K hK => by ((try unfold Same at hw'); (try go_split_ands); go_simp; exact hK)) ?_
      refine wpOrd_rd rfl rfl (by first | decide | simp) (by assumption) (fun w' hw' K hK => by ((try unfold Same at hw'); (try go_split_ands); go_simp; exact hK)) ?_
      refine wpOrd_rd rfl rfl (by first | decide | simp) (by assumption) (fun w' hw' K hK => by ((try unfold Same at hw'); (try go_split_ands); go_simp; exact hK)) ?_
      refine wpOrd_rd rfl rfl (by first | decide | simp) (by assumption) (fun w' hw' K hK => by ((try unfold Same at hw'); (try go_split_ands); go_simp; exact hK)) ?_
      refine wpOrd_rd rfl rfl (by first | decide | simp) (by assumption) (fun w' hw' K hK => by ((try unfold Same at hw'); (try go_split_ands); go_simp; exact hK)) ?_
      refine wpOrd_rd rfl rfl (by first | decide | simp) (by assumption) (fun w' hw' K hK => by ((try unfold Same at hw'); (try go_split_ands); go_simp; exact hK)) ?_
      refine wpOrd_rd rfl rfl (by first | decide | simp) (by assumption) (fun w' hw' K hK => by ((try unfold Same at hw'); (try go_split_ands); go_simp; exact hK)) ?_
      refine wpOrd_rd rfl rfl (by first | decide | simp) (by assumption) (fun w' hw' K hK => by ((try unfold Same at hw'); (try go_split_ands); go_simp; exact hK)) ?_
      refine wpOrd_rd rfl rfl (by first | decide | simp) (by assumption) (fun w' hw' K hK => by ((try unfold Same at hw'); (try go_split_ands); go_simp; exact hK)) ?_
      refine wpOrd_rd rfl rfl (by first | decide | simp) (by assumption) (fun w' hw' K hK => by ((try unfold Same at hw'); (try go_split_ands); go_simp; exact hK)) ?_
      refine wpOrd_rd rfl rfl (by first | decide | simp) (by assumption) (fun w' hw' K hK => by ((try unfold Same at hw'); (try go_split_ands); go_simp; exact hK)) ?_
      refine wpOrd_rd rfl rfl (by first | decide | simp) (by assumption) (fun w' hw' K hK => by ((try unfold Same at hw'); (try go_split_ands); go_simp; exact hK)) ?_
      refine wpOrd_do rfl ?_
      (first | refine wpList_plain rfl (fun K hK => ?_) | refine wpList_step (fun K hK => ?_))
      go_simp
      ((with_reducible refine (hfour _).mono ?_); rintro e w5 ⟨rfl, hc5⟩)
      refine hK _ _ ?_
      clear hK K
      (try dsimp only [Act.put])
      refine wpOrd_done (Same.of ((Chg.refl NoB wr).drew.trans' hc5)) (fun hS1 => ?_)
      refine wpOrd_do rfl ?_
      (first | refine wpList_plain rfl (fun K hK => ?_) | refine wpList_step (fun K hK => ?_))
      go_simp
      ((with_reducible refine (hpack _).mono ?_); rintro e w6 ⟨rfl, hc6⟩)
      refine hK _ _ ?_
      clear hK K
      (try dsimp only [Act.put])
      refine wpOrd_done (Same.of (((Chg.refl NoB wr).drew.trans' hc5).trans' hc6)) (fun hS2 => ?_)
      refine wpOrd_rd rfl rfl (by first | decide | simp) (by assumption) (fun w' hw' K hK => by ((try unfold Same at hw'); (try go_split_ands); go_simp; exact hK)) ?_
      refine wpOrd_rd rfl rfl (by first | decide | simp) (by assumption) (fun w' hw' K hK => by ((try unfold Same at hw'); (try go_split_ands); go_simp; exact hK)) ?_
      refine wpOrd_rd rfl rfl (by first | decide | simp) (by assumption) (fun w' hw' K hK => by ((try unfold Same at hw'); (try go_split_ands); go_simp; exact hK)) ?_
      refine wpOrd_nil ?_
      go_wp2_with fail
      go_roundw
      case rel =>
        refine ⟨k + 1, S ++ (SA ++ SB), by omega, rfl, by go_num, hid ?_, hid (hC.out.trans' (((Chg.refl NoB wr).drew.trans' hc5).trans' hc6))⟩
        rw [hT.out]
        apply ByteArray.ext
        rw [ByteArray.data_append, ByteArray.data_append, hS.out, hSA.out, hSB.out]
        apply Array.toList_inj.1
        simp
      case measure => simp [intOf] <;> omega
    · obtain rfl : k = L.length := by omega
      go_wp2
      go_ret
      exact ⟨by rw [HR.out, hS.out]; rfl, hC.out⟩
end Go.Proofs.Ytghklbflbodajaa
