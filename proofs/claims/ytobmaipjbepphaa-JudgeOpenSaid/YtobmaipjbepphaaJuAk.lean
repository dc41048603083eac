import Derived.Test.YtobmaipjbepphaaJuAw
namespace Go.Proofs.Ytobmaipjbepphaa
open Go.RowKit Go.ChangeMaps Go.MapKept
set_option linter.unusedVariables false
set_option maxHeartbeats 8000000

theorem ents2 {w : World} {b : Nat} {C : Array Value} {x y : Ent} (hb : w.heap[b]? = some (.cells C 32 (0, 0))) (hC : C.toList = [x, y].flatMap Ent.csn) (hn : ∀ z ∈ [x, y], z.r.txns = [] ∧ z.r.pages = [] ∧ z.r.okk ∧ fits z.at_) : Ents w (.slice (some ⟨b, 0, none⟩) 2 2) [x, y] :=
  Ents.of_cells (Rd.of_blk (l := [x, y]) (enc := Ent.csn) (size := 12) (fun x => rfl) hb hC (by simp [maxLen])) (fun z hz => ⟨(hn z hz).1, (hn z hz).2.1, (hn z hz).2.2.1.1, (hn z hz).2.2.2⟩)
theorem ents1 {w : World} {b : Nat} {C : Array Value} {x : Ent} (hb : w.heap[b]? = some (.cells C 32 (0, 0))) (hC : C.toList = [x].flatMap Ent.csn) (hn : ∀ z ∈ [x], z.r.txns = [] ∧ z.r.pages = [] ∧ z.r.okk ∧ fits z.at_) : Ents w (.slice (some ⟨b, 0, none⟩) 1 1) [x] :=
  Ents.of_cells (Rd.of_blk (l := [x]) (enc := Ent.csn) (size := 12) (fun x => rfl) hb hC (by simp [maxLen])) (fun z hz => ⟨(hn z hz).1, (hn z hz).2.1, (hn z hz).2.2.1.1, (hn z hz).2.2.2⟩)
theorem okU : ue.r.okk := (aw_ok ue (by simp)).2.2.1
theorem okC : ce.r.okk := (aw_ok ce (by simp)).2.2.1
theorem okD : de.r.okk := (aw_ok de (by simp)).2.2.1

def uC : Array Value := #[.int .i64 128, .int .i64 1, .int .i64 1, .int .i64 0, .int .i64 0, .int .i64 0, .int .i64 0, .int .i64 0, .string ⟨#[0]⟩, .string ⟨#[97]⟩, .slice none 0 0, .slice none 0 0]
def cC : Array Value := #[.int .i64 160, .int .i64 3, .int .i64 1, .int .i64 0, .int .i64 0, .int .i64 0, .int .i64 0, .int .i64 0, .string ⟨#[]⟩, .string ⟨#[]⟩, .slice none 0 0, .slice none 0 0]
def dC : Array Value := #[.int .i64 160, .int .i64 3, .int .i64 1, .int .i64 0, .int .i64 0, .int .i64 128, .int .i64 0, .int .i64 0, .string ⟨#[]⟩, .string ⟨#[]⟩, .slice none 0 0, .slice none 0 0]
theorem cells12 {w : World} {b : Nat} {x0 x1 x2 x3 x4 x5 x6 x7 x8 x9 x10 x11 : Value} {t : TypeId} {f : Nat × Nat} (h : w.heap[b]? = some (.cells #[x0, x1, x2, x3, x4, x5, x6, x7, x8, x9, x10, x11] t f)) :
    w.cell? ⟨b, 0, none⟩ = some x0 ∧ w.cell? ⟨b, 1, none⟩ = some x1 ∧ w.cell? ⟨b, 2, none⟩ = some x2 ∧ w.cell? ⟨b, 3, none⟩ = some x3 ∧ w.cell? ⟨b, 4, none⟩ = some x4 ∧ w.cell? ⟨b, 5, none⟩ = some x5 ∧ w.cell? ⟨b, 6, none⟩ = some x6 ∧ w.cell? ⟨b, 7, none⟩ = some x7 ∧ w.cell? ⟨b, 8, none⟩ = some x8 ∧ w.cell? ⟨b, 9, none⟩ = some x9 ∧ w.cell? ⟨b, 10, none⟩ = some x10 ∧ w.cell? ⟨b, 11, none⟩ = some x11 := by
  refine ⟨?_, ?_, ?_, ?_, ?_, ?_, ?_, ?_, ?_, ?_, ?_, ?_⟩ <;> rw [cell_blk h] <;> rfl
structure AwB (w W : World) : Prop where
  u : W.heap[w.heap.size]? = some (.cells uC 32 (0, 0))
  c : W.heap[w.heap.size + 1]? = some (.cells cC 32 (0, 0))
  d : W.heap[w.heap.size + 1 + 1]? = some (.cells dC 32 (0, 0))
  chg : Chg NoB w W
theorem AwB.keep {w W W' : World} (h : AwB w W) (hc : Chg NoB W W') : AwB w W' := ⟨hc.heap h.u nob, hc.heap h.c nob, hc.heap h.d nob, h.chg.trans' hc⟩
theorem aw_b (w : World) : AwB w (((w.alloc (.cells uC 32)).alloc (.cells cC 32)).alloc (.cells dC 32)) := by
  have h1 := blk_new (w.alloc (.cells uC 32)) (.cells cC 32)
  have h2 := blk_new ((w.alloc (.cells uC 32)).alloc (.cells cC 32)) (.cells dC 32)
  simp only [World.size_alloc] at h1 h2
  exact ⟨blk_alloc (blk_alloc (blk_new _ _) _) _, blk_alloc h1 _, h2, (((Chg.refl _ _).alloc _).alloc _).alloc _⟩
theorem aw_ud (W : World) : Ents (W.alloc (.cells (uC ++ dC) 32)) (.slice (some ⟨W.heap.size, 0, none⟩) 2 2) [ue, de] := ents2 (blk_new _ _) rfl (fun z hz => aw_ok z (by
  rcases List.mem_cons.1 hz with rfl | hz
  · simp
  · rw [List.mem_singleton.1 hz]; simp))
theorem aw_uc (W : World) : Ents (W.alloc (.cells (uC ++ cC) 32)) (.slice (some ⟨W.heap.size, 0, none⟩) 2 2) [ue, ce] := ents2 (blk_new _ _) rfl (fun z hz => aw_ok z (by
  rcases List.mem_cons.1 hz with rfl | hz
  · simp
  · rw [List.mem_singleton.1 hz]; simp))
theorem aw_uu (W : World) : Ents (W.alloc (.cells uC 32)) (.slice (some ⟨W.heap.size, 0, none⟩) 1 1) [ue] := ents1 (blk_new _ _) rfl (fun z hz => aw_ok z (by rw [List.mem_singleton.1 hz]; simp))
theorem okk2 {x y : Ent} (hx : x.r.okk) (hy : y.r.okk) : ∀ z ∈ [x, y], z.r.okk := fun z hz => by
  rcases List.mem_cons.1 hz with rfl | hz
  · exact hx
  · rw [List.mem_singleton.1 hz]; exact hy

set_option maxRecDepth 100000 in
theorem awake (w : World) : Calls Try.prog 6 #[] w fun e w' => e = .returned (.bool true) ∧ Chg NoB w w' := by
  go_enter Try.func6, Try.ntmps6
  go_upto_region 5 with fail
  refine wp_gen (fun W => Hid (AwB w W)) (hid (aw_b w)) ?_
  intro W HB
  have HP := hid aw_p
  have HB0 := HB
  have hu := HB0.out.u
  have hc := HB0.out.c
  have hd := HB0.out.d
  unfold uC at hu
  unfold cC at hc
  unfold dC at hd
  have HU0 := hid hu
  have HC0 := hid hc
  have HD0 := hid hd
  clear hu hc hd
  have HL0 := hid (aw_ud W)
  unfold uC dC at HL0
  simp only [List.append_toArray, List.cons_append, List.nil_append] at HL0
  go_wp2_with ((fail_if_success (fail_if_success (with_reducible change wpList _ _ _ (Oper.mk _ (.load 32 _) _ _ _ _ :: _) _ _))); first
    | refine step_loadRow rfl rfl w.heap.size rfl (HU0.out) Try.underlying32 (by kernel_rfl) ?_
    | refine step_loadRow rfl rfl (w.heap.size + 1) rfl (HC0.out) Try.underlying32 (by kernel_rfl) ?_
    | refine step_loadRow rfl rfl (w.heap.size + 1 + 1) rfl (HD0.out) Try.underlying32 (by kernel_rfl) ?_)
  ((with_reducible refine (pages_calls _ ue de _ HL0.out okU okD rfl rfl awq HP).mono ?_); rintro e w1 ⟨vo, rfl, hO, hc1⟩)
  have HB1 := hid (HB0.out.keep (((Chg.refl NoB W).alloc _).trans' hc1.out))
  have hu := HB1.out.u
  have hc := HB1.out.c
  have hd := HB1.out.d
  unfold uC at hu
  unfold cC at hc
  unfold dC at hd
  have HU1 := hid hu
  have HC1 := hid hc
  have HD1 := hid hd
  clear hu hc hd
  have HL1 := hid (aw_uc w1)
  unfold uC cC at HL1
  simp only [List.append_toArray, List.cons_append, List.nil_append] at HL1
  have HF1 := hid aw_f1.symm
  obtain ⟨_, _, ee, hr1, hr2, hr3⟩ := Rd.of_own (l := [awq.data]) (enc := fun s => [Value.string s]) (size := 1) (fun _ => rfl) hO.out
  cases ee
  obtain ⟨sb, so, rfl, hs⟩ := hr3 0 _ rfl
  have HS0 : Hid (w1.cell? ⟨sb, so, none⟩ = some (.string awq.data)) := hid (by simpa using hs 0 _ rfl)
  clear hr1 hr2 hr3 hs
  simp only [List.length_cons, List.length_nil, Nat.zero_add]
  go_wp2_with ((fail_if_success (fail_if_success (with_reducible change wpList _ _ _ (Oper.mk _ (.load 32 _) _ _ _ _ :: _) _ _))); first
    | refine step_loadRow rfl rfl w.heap.size rfl (HU1.out) Try.underlying32 (by kernel_rfl) ?_
    | refine step_loadRow rfl rfl (w.heap.size + 1) rfl (HC1.out) Try.underlying32 (by kernel_rfl) ?_
    | refine step_loadRow rfl rfl (w.heap.size + 1 + 1) rfl (HD1.out) Try.underlying32 (by kernel_rfl) ?_)
  ((with_reducible refine (faults_calls _ [ue, ce] _ HL1.out (by decide) (okk2 okU okC) _ HF1).mono ?_); rintro e w2 ⟨vo2, rfl, hO2, hc2⟩)
  have HB2 := hid (HB1.out.keep (((Chg.refl NoB w1).alloc _).trans' hc2.out))
  have hu := HB2.out.u
  have hd := HB2.out.d
  unfold uC at hu
  unfold dC at hd
  obtain ⟨u0, u1, u2, u3, u4, u5, u6, u7, u8, u9, u10, u11⟩ := cells12 hu
  obtain ⟨d0, d1, d2, d3, d4, d5, d6, d7, d8, d9, d10, d11⟩ := cells12 hd
  clear hu hd
  have HL2 := hid (aw_ud w2)
  unfold uC dC at HL2
  simp only [List.append_toArray, List.cons_append, List.nil_append] at HL2
  have HF2 := hid aw_f2.symm
  obtain ⟨ao2, co2, rfl⟩ := hO2.out.form
  simp only [List.length_cons, List.length_nil, Nat.zero_add]
  go_wp2_with fail
  ((with_reducible refine (faults_calls _ [ue, de] _ HL2.out (by decide) (okk2 okU okD) _ HF2).mono ?_); rintro e w3 ⟨vo3, rfl, hO3, hc3⟩)
  clear u0 u1 u2 u3 u4 u5 u6 u7 u8 u9 u10 u11 d0 d1 d2 d3 d4 d5 d6 d7 d8 d9 d10 d11
  have HB3 := hid (HB2.out.keep (((Chg.refl NoB w2).alloc _).trans' hc3.out))
  have hu := HB3.out.u
  have hd := HB3.out.d
  unfold uC at hu
  unfold dC at hd
  obtain ⟨u0, u1, u2, u3, u4, u5, u6, u7, u8, u9, u10, u11⟩ := cells12 hu
  obtain ⟨d0, d1, d2, d3, d4, d5, d6, d7, d8, d9, d10, d11⟩ := cells12 hd
  clear hu hd
  have HL3 := hid (aw_ud w3)
  unfold uC dC at HL3
  simp only [List.append_toArray, List.cons_append, List.nil_append] at HL3
  have HF3 := hid aw_c2.symm
  obtain ⟨ao3, co3, rfl⟩ := hO3.out.form
  simp only [List.length_nil]
  go_wp2_with fail
  ((with_reducible refine (commits_calls _ [ue, de] _ HL3.out (by decide) _ HF3).mono ?_); rintro e w4 ⟨vo4, rfl, hO4, hc4⟩)
  clear u0 u1 u2 u3 u4 u5 u6 u7 u8 u9 u10 u11 d0 d1 d2 d3 d4 d5 d6 d7 d8 d9 d10 d11
  have HB4 := hid (HB3.out.keep (((Chg.refl NoB w3).alloc _).trans' hc4.out))
  have hu := HB4.out.u
  have hd := HB4.out.d
  unfold uC at hu
  unfold dC at hd
  obtain ⟨u0, u1, u2, u3, u4, u5, u6, u7, u8, u9, u10, u11⟩ := cells12 hu
  obtain ⟨d0, d1, d2, d3, d4, d5, d6, d7, d8, d9, d10, d11⟩ := cells12 hd
  clear hu hd
  have HI4 := hid (Rd.ints_of hO4.out)
  obtain ⟨ao4, co4, rfl⟩ := ownsForm hO4.out
  simp only [List.length_cons, List.length_nil, Nat.zero_add]
  -- the strings of Pages
  have C14 : Hid (Chg NoB w1 w4) := hid ((((Chg.refl NoB w1).alloc _).trans' hc2.out |>.alloc _).trans' hc3.out |>.alloc _ |>.trans' hc4.out)
  go_wp2_with fail
  refine (refSame _ _ [1] [1] _ (Rd.mono HI4.out ((Chg.refl NoB _).alloc _)) (Rd.of_blk (l := [1]) (enc := encI) (size := 1) (fun _ => rfl) (blk_new _ _) rfl (by decide)) true (hid (by decide))).mono ?_
  rintro e w5 ⟨rfl, n5, h5⟩
  have C5 : Hid (Chg NoB w4 w5) := hid (by rw [h5]; exact ((Chg.refl NoB _).alloc _).drewN _)
  clear u0 u1 u2 u3 u4 u5 u6 u7 u8 u9 u10 u11 d0 d1 d2 d3 d4 d5 d6 d7 d8 d9 d10 d11
  clear h5
  have HB5 := hid (HB4.out.keep C5.out)
  have hu := HB5.out.u
  unfold uC at hu
  obtain ⟨u0, u1, u2, u3, u4, u5, u6, u7, u8, u9, u10, u11⟩ := cells12 hu
  clear hu
  have hs5 : w5.cell? ⟨sb, so, none⟩ = some (.string awq.data) := (C14.out.trans' C5.out).cell HS0.out nob
  obtain ⟨qd, hqd⟩ := named awq.data
  rw [← hqd.out] at hs5
  have hq1 : qd.size = 220 := by rw [hqd.out]; kernel_rfl
  have HL5 := hid (aw_uu w5)
  unfold uC at HL5
  have HF5 := hid aw_o.symm
  have hq2 : (qd.extract 0 2).toList = [97, 0] := by rw [hqd.out, show awq.data.extract 0 2 = (⟨#[97, 0]⟩ : ByteArray) from by kernel_rfl]; first | rfl | simp | simp [go_sem] | decide
  go_wp2_with fail
  ((with_reducible refine (open_calls _ [ue] _ HL5.out (by decide) (fun z hz => by rw [List.mem_singleton.1 hz]; exact okU) _ HF5).mono ?_); rintro e w6 ⟨vo6, rfl, hO6, hc6⟩)
  clear u0 u1 u2 u3 u4 u5 u6 u7 u8 u9 u10 u11
  clear hs5 hq1 hq2
  have HR6 := hid (Rd.of_own (l := [((1 : Int), (128 : Int), (128 : Int))]) (enc := encTx) (size := 3) (fun _ => rfl) hO6.out)
  obtain ⟨ao6, co6, rfl⟩ := ownsForm hO6.out
  simp only [List.length_cons, List.length_nil, Nat.zero_add]
  have C6 : Hid (Chg NoB w w6) := hid (HB5.out.chg.trans' (((Chg.refl NoB w5).alloc _).trans' hc6.out))
  go_wp2_with fail
  refine (sameRows _ _ [(1, 128, 128)] [(1, 128, 128)] _ (Rd.mono HR6.out ((Chg.refl NoB _).alloc _)) (Rd.of_blk (l := [(1, 128, 128)]) (enc := encTx) (size := 3) (fun _ => rfl) (blk_new _ _) rfl (by decide)) true (hid (by decide))).mono ?_
  rintro e w7 ⟨rfl, n7, h7⟩
  have C7 : Hid (Chg NoB w w7) := hid (by rw [h7]; exact (C6.out.alloc _).drewN _)
  clear h7
  go_wp2_with fail
  go_ret
  exact ⟨rfl, C7.out⟩
end Go.Proofs.Ytobmaipjbepphaa
