import Derived.Test.YtghklbflbodajaaBb3
import Derived.Test.YtghklbflbodajaaBk5
namespace Go.Proofs.Ytghklbflbodajaa
open Go.RowKit Go.ChangeMaps Go.MapKept
attribute [local go_sem] Go.Oper.rdK
set_option linter.unusedVariables false
set_option linter.unusedSimpArgs false
set_option linter.unnecessarySimpa false
set_option maxHeartbeats 8000000

/-- What the reference's Read answers. -/
def RdQ (s : ByteArray) (w w' : World) (e : Ending) : Prop :=
  match bkRead s with
  | none => e = .returned (.tuple #[.pointer none, .bool false]) ∧ Chg NoB w w'
  | some L => ∃ p v, e = .returned (.tuple #[.pointer (some ⟨p, 0, none⟩), .bool true]) ∧ Hid (RbR w' p v L) ∧ Hid (Chg NoB w w')
theorem RdQ.none' {s : ByteArray} {w w' : World} {e : Ending} (h : bkRead s = none) (he : e = .returned (.tuple #[.pointer none, .bool false])) (hc : Chg NoB w w') : RdQ s w w' e := by
  unfold RdQ; rw [h]; exact ⟨he, hc⟩
def bkIts (s : ByteArray) (k : Nat) : List Tk := (List.range k).map (bkItem s)
theorem bkIts_len (s : ByteArray) (k : Nat) : (bkIts s k).length = k := by simp [bkIts]
theorem bkIts_snoc (s : ByteArray) (k : Nat) : tksC (bkIts s (k + 1)) = tksC (bkIts s k) ++ encTk (bkItem s k) := by
  simp [bkIts, List.range_succ, tksC]
theorem bkT_eq (s : ByteArray) (k : Nat) (h : 5 + (k + 1) * 228 ≤ s.size) : s.extract (5 + 228 * k) (5 + 228 * k + 228) = bkT s k := by
  unfold bkT
  rw [ByteArray.extract_extract]
  congr 1
  · omega
  · omega
/-- The reference's Read, when k copies are read. -/
structure RqI (s : ByteArray) (w wr : World) (p : Nat) (v : Value) (k : Nat) : Prop where
  hd : wr.heap[p]? = some (.cells #[v] 38 (0, 0))
  own : wr.ownsRow w.heap.size 73 4 v k (tksC (bkIts s k))
  chg : Chg NoB w wr
  gp : w.heap.size ≤ p
  ok : ∀ i < k, bkGood s i = true
theorem RqI.keep {s : ByteArray} {w wr w' : World} {p : Nat} {v : Value} {k : Nat} (h : RqI s w wr p v k) (hc : Chg NoB wr w') : RqI s w w' p v k := ⟨hc.heap h.hd nob, ownsRow.chg h.own hc (fun _ _ => nob), h.chg.trans' hc, h.gp, h.ok⟩

set_option maxRecDepth 100000 in
theorem qread_short (s : ByteArray) (w : World) (hs : s.size ≤ 4) (hn : bkRead s = none) :
    Calls Try.prog 8 #[.string s] w fun e w' => RdQ s w w' e := by
  have hs' : (s.size : Int) < 5 := by omega
  go_enter Try.func8, Try.ntmps8
  go_wp2
  go_ret2
  exact RdQ.none' hn rfl (Chg.refl _ _)
set_option maxRecDepth 100000 in
theorem qread_pre (s : ByteArray) (w : World) (h4 : 4 < s.size) (hp : ((s.extract 0 4).toList == [66, 75, 80, 49]) = false) (hn : bkRead s = none) :
    Calls Try.prog 8 #[.string s] w fun e w' => RdQ s w w' e := by
  have hs' : ¬ (s.size : Int) < 5 := by omega
  have hs4 : (4 : Int) ≤ (s.size : Int) := by omega
  have hs4' : 4 ≤ s.size := by omega
  go_enter Try.func8, Try.ntmps8
  go_wp2
  go_ret2
  exact RdQ.none' hn rfl (Chg.refl _ _)
set_option maxRecDepth 100000 in
theorem qread_low (s : ByteArray) (w : World) (h4 : 4 < s.size) (hp : ((s.extract 0 4).toList == [66, 75, 80, 49]) = true) (h8 : bkN s < 1) (hn : bkRead s = none) :
    Calls Try.prog 8 #[.string s] w fun e w' => RdQ s w w' e := by
  have hs' : ¬ (s.size : Int) < 5 := by omega
  have hs4 : (4 : Int) ≤ (s.size : Int) := by omega
  have hs4' : 4 ≤ s.size := by omega
  obtain ⟨n, hnn⟩ := named (bkN s)
  have hn4 : (s[4]'h4).toNat = n := by rw [hnn.out]; unfold bkN; rw [dif_pos h4]
  rw [← hnn.out] at h8
  have z1 : (n : Int) < 1 := by omega
  go_enter Try.func8, Try.ntmps8
  go_wp2
  go_ret2
  exact RdQ.none' hn rfl (Chg.refl _ _)
set_option maxRecDepth 100000 in
theorem qread_high (s : ByteArray) (w : World) (h4 : 4 < s.size) (hp : ((s.extract 0 4).toList == [66, 75, 80, 49]) = true) (h1 : 1 ≤ bkN s) (h8 : 8 < bkN s) (hn : bkRead s = none) :
    Calls Try.prog 8 #[.string s] w fun e w' => RdQ s w w' e := by
  have hs' : ¬ (s.size : Int) < 5 := by omega
  have hs4 : (4 : Int) ≤ (s.size : Int) := by omega
  have hs4' : 4 ≤ s.size := by omega
  obtain ⟨n, hnn⟩ := named (bkN s)
  have hn4 : (s[4]'h4).toNat = n := by rw [hnn.out]; unfold bkN; rw [dif_pos h4]
  rw [← hnn.out] at h8 h1
  have z1 : ¬ (n : Int) < 1 := by omega
  have z2 : (n : Int) > 8 := by omega
  go_enter Try.func8, Try.ntmps8
  go_wp2
  go_ret2
  exact RdQ.none' hn rfl (Chg.refl _ _)
set_option maxRecDepth 100000 in
theorem qread_size (s : ByteArray) (w : World) (h4 : 4 < s.size) (hf : s.size ≤ 2 ^ 63 - 1) (hp : ((s.extract 0 4).toList == [66, 75, 80, 49]) = true) (h1 : 1 ≤ bkN s) (h8 : bkN s ≤ 8) (hz : s.size ≠ 5 + bkN s * 228) (hn : bkRead s = none) :
    Calls Try.prog 8 #[.string s] w fun e w' => RdQ s w w' e := by
  have hs' : ¬ (s.size : Int) < 5 := by omega
  have hs4 : (4 : Int) ≤ (s.size : Int) := by omega
  have hs4' : 4 ≤ s.size := by omega
  obtain ⟨n, hnn⟩ := named (bkN s)
  have hn4 : (s[4]'h4).toNat = n := by rw [hnn.out]; unfold bkN; rw [dif_pos h4]
  rw [← hnn.out] at h8 h1 hz
  have z1 : ¬ (n : Int) < 1 := by omega
  have z2 : ¬ (n : Int) > 8 := by omega
  have hz' : ((s.size : Int) == 5 + 228 * (n : Int)) = false := by rw [beq_eq_false_iff_ne]; omega
  go_enter Try.func8, Try.ntmps8
  go_wp2
  go_ret2
  exact RdQ.none' hn rfl (Chg.refl _ _)
set_option maxRecDepth 100000 in
theorem qread_body (s : ByteArray) (w : World) (h4 : 4 < s.size) (hf : s.size ≤ 2 ^ 63 - 1) (hp : ((s.extract 0 4).toList == [66, 75, 80, 49]) = true) (h1 : 1 ≤ bkN s) (h8 : bkN s ≤ 8) (hz : s.size = 5 + bkN s * 228) :
    Calls Try.prog 8 #[.string s] w fun e w' => RdQ s w w' e := by
  have HH : Hid (bkHead s = true) := hid (by simp only [bkHead, Bool.and_eq_true, decide_eq_true_eq]; exact ⟨h4, hp, h1, h8, hz⟩)
  have hs' : ¬ (s.size : Int) < 5 := by omega
  have hs4 : (4 : Int) ≤ (s.size : Int) := by omega
  have hs4' : 4 ≤ s.size := by omega
  obtain ⟨n, hnn⟩ := named (bkN s)
  have hn4 : (s[4]'h4).toNat = n := by rw [hnn.out]; unfold bkN; rw [dif_pos h4]
  rw [← hnn.out] at h8 h1 hz
  have HZ := hid hz
  have z1 : ¬ (n : Int) < 1 := by omega
  have z2 : ¬ (n : Int) > 8 := by omega
  have hz' : ((s.size : Int) == 5 + 228 * (n : Int)) = true := by rw [beq_iff_eq]; omega
  clear hz
  go_enter Try.func8, Try.ntmps8
  go_upto_region 5 with fail
  refine wp_gen (fun W => RqI s w W w.heap.size (.slice none 0 0) 0) ⟨blk_new _ _, World.ownsRow_nil _ _ _ _, (Chg.refl NoB w).alloc _, Nat.le_refl _, fun i hi => by omega⟩ ?_
  intro W HI
  have HI0 := hid HI
  clear HI
  go_loopw [5] (fun i wr => ∃ (k : Nat) (v : Value), k ≤ n ∧ i = .int .i64 k ∧ Hid (RqI s w wr w.heap.size v k)) (fun i _ => n - (intOf i).toNat)
  case atStart => exact ⟨0, _, by omega, rfl, HI0⟩
  case round =>
    obtain ⟨k, v, hk, rfl, hI⟩ := hrel
    by_cases hlt : k < n
    · have b1 : (5 : Int) + 228 * (k : Int) ≤ (s.size : Int) := by have := HZ.out; omega
      have b2 : (5 : Int) + 228 * (k : Int) + 228 ≤ (s.size : Int) := by have := HZ.out; omega
      obtain ⟨ao, co, rfl⟩ := ownsForm hI.out.own
      go_upto_region 8 with fail
      have htz : (bkT s k).size = 228 := by
        unfold bkT
        rw [ByteArray.size_extract, ByteArray.size_extract]
        have := HZ.out
        omega
      rw [bkT_eq s k (by have := HZ.out; omega)]
      obtain ⟨t, ht⟩ := named (bkT s k)
      rw [← ht.out] at htz ⊢
      have ht4 : (4 : Int) ≤ (t.size : Int) := by omega
      have ht4' : 4 ≤ t.size := by omega
      have HTZ := hid htz
      clear htz b1 b2
      obtain ⟨A, hA⟩ := named (numK t 4)
      have hAlt : A < 4294967296 := by rw [hA.out]; exact numK_lt t 4
      have hnum := fun w => qNumber_calls t w ht4' (by rw [HTZ.out]; decide)
      rw [← hA.out] at hnum
      have hwA : IntKind.i64.wrap (A : Int) = (A : Int) := wrap_small (by omega) (by omega)
      obtain ⟨u, hu⟩ := named (unpackPg (t.extract 4 t.size))
      have hus : (t.extract 4 t.size).size ≤ 2 ^ 62 := by rw [ByteArray.size_extract]; have := HTZ.out; omega
      have hgood : Hid (bkGood s k = (decide (u.2 = 0) && decide (A ≤ 2147483647))) := hid (by unfold bkGood; rw [← ht.out, ← hu.out, ← hA.out])
      have hitem : Hid (bkItem s k = ⟨true, u.1, A⟩) := hid (by unfold bkItem; rw [← ht.out, ← hu.out, ← hA.out])
      obtain ⟨b, hb⟩ := named (decide (u.2 = 0))
      have hunp := fun w => qUnpack_calls (t.extract 4 t.size) w hus u hu b hb
      go_upto_region 10 with (first
        | (go_at_call 26; with_reducible refine (hunp _).mono ?_; rintro e w3 ⟨rfl, hc3⟩)
        | ((fail_if_success (fail_if_success (with_reducible change wpList _ _ _ (Oper.mk _ (.store 40 _ _) _ _ _ _ :: _) _ _))); refine step_storeRow rfl rfl w3.heap.size rfl rfl (blk_new _ _) (by kernel_rfl) rfl (by simp [Value.oneCell']) ?_; intro w4 hb4 hc4 hs4)
        | (go_at_call 27; with_reducible refine (hnum _).mono ?_; rintro e w5 ⟨rfl, hc5⟩))
      have hb5 := hc5.heap hb4 nob
      have hc6 : Chg NoB wr w5 := (((hc3.alloc _)).new hc4 (fun i x => by have h' : i = w3.heap.size := x; have := hc3.size; omega)).trans' hc5
      have HI5 := hid (hI.out.keep hc6)
      have HB5 := hid hb5
      obtain ⟨xb, hxb⟩ := named w3.heap.size
      rw [← hxb.out] at HB5 ⊢
      clear hb4 hc3 hc4 hs4 hc5 hc6 hxb hb5 hI
      cases b
      · have hbad : bkRead s = none := bkRead_bad HH.out (k := k) (by rw [← hnn.out]; exact hlt) (by rw [hgood.out, ← hb.out]; rfl)
        go_wp2
        go_ret2
        exact RdQ.none' hbad rfl HI5.out.chg
      · by_cases hA2 : (A : Int) > 2147483647
        · have hbad : bkRead s = none := bkRead_bad HH.out (k := k) (by rw [← hnn.out]; exact hlt) (by rw [hgood.out, Bool.and_eq_false_iff]; right; simp; omega)
          go_wp2
          go_ret2
          exact RdQ.none' hbad rfl HI5.out.chg
        · have hok : Hid (bkGood s k = true) := hid (by rw [hgood.out, ← hb.out]; simp; omega)
          have r0 : w5.cell? ⟨w.heap.size, 0, none⟩ = some (.slice ao k co) := by rw [cell_blk HI5.out.hd]; rfl
          have x0 : w5.cell? ⟨xb, 0, none⟩ = some (.int .i64 u.1.at_) := by rw [cell_blk HB5.out]; rfl
          have x1 : w5.cell? ⟨xb, 1, none⟩ = some (.string u.1.data) := by rw [cell_blk HB5.out]; rfl
          have hO : ∀ j, OwnB (.slice ao k co) j → ∃ cur, w5.heap[j]? = some (.cells cur 73 (0, 0)) := fun j hj => ownBlk HI5.out.own hj
          have n1 : ¬ OwnB (.slice ao k co) w.heap.size := fun e => by
            obtain ⟨cur, hcur⟩ := hO _ e
            rw [HI5.out.hd] at hcur
            cases hcur
          have n2 : ¬ OwnB (.slice ao k co) xb := fun e => by
            obtain ⟨cur, hcur⟩ := hO _ e
            rw [HB5.out] at hcur
            cases hcur
          have N1 := hid n1
          have cS : ∀ w' : World, Chg (OwnB (.slice ao k co)) w5 w' → w'.cell? ⟨w.heap.size, 0, none⟩ = some (.slice ao k co) ∧ w'.cell? ⟨xb, 0, none⟩ = some (.int .i64 u.1.at_) ∧ w'.cell? ⟨xb, 1, none⟩ = some (.string u.1.data) := fun w' h => ⟨h.cell r0 n1, h.cell x0 n2, h.cell x1 n2⟩
          have hz5 := HI5.out.chg.size
          have hlp : w.heap.size < w5.heap.size := lt_of_block HI5.out.hd
          clear hO n1 n2
          go_upto_region 12 with fail
          refine wp_region_ord 12 (.rd 0 (.rd 1 (.rd 2 (.rd 3 (.rd 4 (.rd 5 (.rd 6 (.rd 7 (.one 8 (.one 9 (.rd 10 (.rd 11 (.one 12 (.done)))))))))))))) (fun w' => w'.cell? ⟨w.heap.size, 0, none⟩ = some (.slice ao k co) ∧ w'.cell? ⟨xb, 0, none⟩ = some (.int .i64 u.1.at_) ∧ w'.cell? ⟨xb, 1, none⟩ = some (.string u.1.data)) (by kernel_rfl) (by kernel_rfl) (by kernel_rfl) (by kernel_rfl) (by kernel_rfl) (fun _ _ d _ _ h => by cases d <;> exact h) (⟨r0, x0, x1⟩) (fun hS0 => ?_)
          refine wpOrd_rd rfl rfl (by first | decide | simp) (by assumption) (fun w' hw' K hK => by ((try unfold Same at hw'); (try go_split_ands); go_simp; exact hK)) ?_
          refine wpOrd_rd rfl rfl (by first | decide | simp) (by assumption) (fun w' hw' K hK => by ((try unfold Same at hw'); (try go_split_ands); go_simp; exact hK)) ?_
          refine wpOrd_rd rfl rfl (by first | decide | simp) (by assumption) (fun w' hw' K hK => by ((try unfold Same at hw'); (try go_split_ands); go_simp; exact hK)) ?_
          refine wpOrd_rd rfl rfl (by first | decide | simp) (by assumption) (fun w' hw' K hK => by ((try unfold Same at hw'); (try go_split_ands); go_simp; exact hK)) ?_
          refine wpOrd_rd rfl rfl (by first | decide | simp) (by assumption) (fun w' hw' K hK => by ((try unfold Same at hw'); (try go_split_ands); go_simp; exact hK)) ?_
          refine wpOrd_rd rfl rfl (by first | decide | simp) (by assumption) (fun w' hw' K hK => by ((try unfold Same at hw'); (try go_split_ands); go_simp; exact hK)) ?_
          refine wpOrd_rd rfl rfl (by first | decide | simp) (by assumption) (fun w' hw' K hK => by ((try unfold Same at hw'); (try go_split_ands); go_simp; exact hK)) ?_
          refine wpOrd_rd rfl rfl (by first | decide | simp) (by assumption) (fun w' hw' K hK => by ((try unfold Same at hw'); (try go_split_ands); go_simp; exact hK)) ?_
          refine wpOrd_do rfl ?_
          (first | refine wpList_plain rfl (fun K hK => ?_) | refine wpList_step (fun K hK => ?_))
          go_simp
          refine hK _ _ ?_
          clear hK K
          (try dsimp only [Act.put])
          refine wpOrd_done (cS _ ((Chg.refl _ w5).drew.alloc _)) (fun hS1 => ?_)
          refine wpOrd_do rfl ?_
          refine step_app1 slTkQ rfl _ _ rfl (ownsRow.chg HI5.out.own ((Chg.refl NoB w5).drew.alloc _) (fun _ _ => nob)) rfl w5.heap.size (encTk ⟨true, u.1, A⟩) rfl (blk_new (World.drew w5) _) rfl rfl (by simp [encTk, Value.oneCell']) (by omega) (by unfold maxLen; omega) (by show w.heap.size ≤ (World.alloc w5 _).heap.size; rw [World.size_alloc]; omega) ?_; intro v7 w7 hv7 hc7 hvo hnil
          obtain ⟨a7, c7, rfl⟩ := ownsForm hv7
          have hb7 := hc7.heap (((Chg.refl NoB w5).drew.alloc (.cells (encTk ⟨true, u.1, A⟩).toArray 73)).heap HI5.out.hd nob) N1.out
          (try dsimp only [Act.put])
          (try simp only [List.setIfInBounds_toArray, List.set_cons_zero, List.set_cons_succ])
          refine wpOrd_done (cS _ (((Chg.refl _ w5).drew.alloc _).trans' hc7)) (fun hS2 => ?_)
          refine wpOrd_rd rfl rfl (by first | decide | simp) (by assumption) (fun w' hw' K hK => by ((try unfold Same at hw'); (try go_split_ands); go_simp; exact hK)) ?_
          refine wpOrd_rd rfl rfl (by first | decide | simp) (by assumption) (fun w' hw' K hK => by ((try unfold Same at hw'); (try go_split_ands); go_simp; exact hK)) ?_
          refine wpOrd_do rfl ?_
          refine step_store1 (v := .slice a7 (k + 1) c7) rfl rfl w.heap.size 0 rfl rfl rfl rfl (cs := [.slice ao k co]) hb7 (by simp) (by kernel_rfl) ?_; intro w8 hb8 hc8 hs8
          (try dsimp only [Act.put])
          refine wpOrd_last ?_
          refine wpOrd_nil ?_
          have hvp : ¬ OwnB (.slice a7 (k + 1) c7) w.heap.size := fun e => by
            rcases hvo _ e with h | h
            · exact N1.out h
            · have h' : (World.alloc w5 (.cells (encTk ⟨true, u.1, A⟩).toArray 73)).heap.size ≤ w.heap.size := h
              rw [World.size_alloc] at h'
              omega
          have hI8 : Hid (RqI s w w8 w.heap.size (.slice a7 (k + 1) c7) (k + 1)) := hid ⟨by simpa using hb8, by
              rw [bkIts_snoc, hitem.out]
              exact ownsRow.chg hv7 hc8 (fun j hj => fun e => by have h' : j = w.heap.size := e; subst h'; exact hvp hj), (((HI5.out.chg.trans' (Chg.refl NoB w5).drew).alloc _).trans hc7 (fun i hi => .inr (OwnB.ge HI5.out.own i hi).1)).new hc8 (fun i x => by have h' : i = w.heap.size := x; omega), Nat.le_refl _, fun i hi => by
              by_cases hik : i < k
              · exact HI5.out.ok i hik
              · obtain rfl : i = k := by omega
                exact hok.out⟩
          clear hb8 hc8 hs8 hv7 hc7 hvo hnil hb7 hvp cS
          go_wp2_with fail
          go_roundw
          case rel => exact ⟨k + 1, _, by omega, by go_num, hI8⟩
          case measure => simp [intOf] <;> omega
    · obtain rfl : k = n := by omega
      have hsome : Hid (bkRead s = some (bkIts s k)) := hid (by
        unfold bkRead
        rw [HH.out, Bool.true_and, if_pos]
        · rw [← hnn.out]; rfl
        · rw [List.all_eq_true]
          intro i hi
          rw [← hnn.out, List.mem_range] at hi
          exact hI.out.ok i hi)
      go_wp2_with fail
      go_ret2
      unfold RdQ
      rw [hsome.out]
      exact ⟨_, v, rfl, hid ⟨hI.out.hd, Rd.of_own (enc := encTk) (size := 4) (fun _ => rfl) (by rw [bkIts_len]; exact hI.out.own)⟩, hid hI.out.chg⟩
set_option maxRecDepth 100000 in
theorem qread_calls (s : ByteArray) (w : World) (hf : s.size ≤ 2 ^ 63 - 1) :
    Calls Try.prog 8 #[.string s] w fun e w' => RdQ s w w' e := by
  by_cases h4 : 4 < s.size
  · cases hp : ((s.extract 0 4).toList == [66, 75, 80, 49])
    · exact qread_pre s w h4 hp (bkRead_none (by unfold bkHead; rw [hp]; simp))
    · by_cases h1 : 1 ≤ bkN s
      · by_cases h8 : bkN s ≤ 8
        · by_cases hz : s.size = 5 + bkN s * 228
          · exact qread_body s w h4 hf hp h1 h8 hz
          · exact qread_size s w h4 hf hp h1 h8 hz (bkRead_none (by unfold bkHead; simp [hz]))
        · exact qread_high s w h4 hp h1 (by omega) (bkRead_none (by unfold bkHead; simp [h8]))
      · exact qread_low s w h4 hp (by omega) (bkRead_none (by unfold bkHead; simp [h1]))
  · exact qread_short s w (by omega) (bkRead_none (by unfold bkHead; simp [h4]))
end Go.Proofs.Ytghklbflbodajaa
