import Derived.Test.YtlhblkpdfdpiaaaWtOp
import Derived.Test.YtlhblkpdfdpiaaaWtRb
import Derived.Test.YtlhblkpdfdpiaaaWtOr2
import Derived.Test.YtlhblkpdfdpiaaaRefSame
namespace Go.Proofs.Ytlhblkpdfdpiaaa.Wt
open Go.RowKit Go.ChangeMaps Go.MapKept Go.Shelf
set_option linter.unusedVariables false
set_option linter.unusedSimpArgs false
set_option linter.unnecessarySimpa false
set_option maxHeartbeats 8000000

theorem Rd.of_blk {α : Type} {w : World} {size : Nat} {enc : α → List Value} (he : ∀ x, (enc x).length = size) {l : List α} {b : Nat} {cs : Array Value} {t : TypeId} {f : Nat × Nat} (hb : w.heap[b]? = some (.cells cs t f)) (hcs : cs.toList = l.flatMap enc) (hl : l.length ≤ maxLen) :
    Rd w size enc (.slice (some ⟨b, 0, none⟩) l.length l.length) l := by
  refine ⟨_, _, rfl, Nat.le_refl _, hl, fun i x hi => ⟨b, 0, rfl, fun j u hu => ?_⟩⟩
  have h9 : ∀ (l : List α) (i : Nat) (x : α), l[i]? = some x → ∀ j u, (enc x)[j]? = some u → (l.flatMap enc)[i * size + j]? = some u := by
    intro l
    induction l with
    | nil => intro i x h; simp at h
    | cons y l ih =>
      intro i x h j u hu
      cases i with
      | zero =>
        simp at h; subst h
        have := (List.getElem?_eq_some_iff.1 hu).1
        rw [List.flatMap_cons, List.getElem?_append_left (by omega)]
        simpa using hu
      | succ i =>
        rw [List.flatMap_cons, List.getElem?_append_right (by rw [he]; rw [Nat.succ_mul]; omega), he]
        have := ih i x (by simpa using h) j u hu
        rw [show (i + 1) * size + j - size = i * size + j by rw [Nat.succ_mul]; omega]
        exact this
  rw [cell_blk hb, ← Array.getElem?_toList, hcs, Nat.zero_add]
  exact h9 l i x hi j u hu
theorem sameC (va vb : Value) (a b : List Int) (w : World) (ha : Rd w 1 encI va a) (hb : Rd w 1 encI vb b) (r : Bool) (hr : Hid (r = decide (a = b))) :
    Calls Try.prog 11 #[va, vb] w fun e w' => e = .returned (.bool r) ∧ Hid (Chg NoB w w') :=
  (refSame va vb a b w ha hb r hr).mono fun e w' ⟨h1, n, h2⟩ => ⟨h1, hid (h2 ▸ (Chg.refl NoB w).drewN n)⟩

def E4 : Edges := [(1, 2), (2, 3), (3, 1), (4, 1)]
def E3 : Edges := [(1, 2), (2, 3), (4, 1)]
theorem E4W : EdW E4 := EdW.of (by intro x hx; simp [E4] at hx; rcases hx with rfl | rfl | rfl | rfl <;> exact ⟨by unfold wf64; decide, by unfold wf64; decide⟩)
theorem E3W : EdW E3 := EdW.of (by intro x hx; simp [E3] at hx; rcases hx with rfl | rfl | rfl <;> exact ⟨by unfold wf64; decide, by unfold wf64; decide⟩)
theorem E4c : cyc E4 = [1, 2, 3] := by decide +kernel
theorem E4v : victims E4 = [3] := by decide +kernel
theorem E3c : cyc E3 = [] := by decide +kernel
theorem E3o : ord E3 = [3, 2, 1, 4] := by decide +kernel
def awT : LTab := lkTake lkEmpty 2 0 1
theorem awB1 : pBl awT 3 1 0 [1, 2] = [2] := by decide +kernel
theorem awB2 : pBl awT 2 1 0 [2] = [] := by decide +kernel

structure AwK (w W : World) (ve vl : Value) (p : Nat) (rs : List Nat) : Prop where
  chg : Chg NoB w W
  e : Rd W 2 encE ve E4
  l : Rd W 1 encI vl [3, 2, 1, 4]
  t : LockAt W p rs awT
theorem AwK.keep {w W W' : World} {ve vl : Value} {p : Nat} {rs : List Nat} (h : AwK w W ve vl p rs) (hc : Chg NoB W W') : AwK w W' ve vl p rs :=
  ⟨h.chg.trans' hc, h.e.keep hc (fun _ _ _ => nob), h.l.keep hc (fun _ _ _ => nob), LockAt.keepC h.t hc⟩

set_option maxRecDepth 100000 in
theorem awake (w : World) : Calls Try.prog 8 #[] w fun e w' => e = .returned (.bool true) ∧ Hid (Chg NoB w w') := by
  go_enter Try.func8, Try.ntmps8
  go_upto_region 2 with fail
  obtain ⟨g, hg⟩ := named w.heap.size
  have h1 : Hid (Chg NoB w (w.alloc (.cells #[.int .i64 1, .int .i64 2, .int .i64 2, .int .i64 3, .int .i64 3, .int .i64 1, .int .i64 4, .int .i64 1] 50)) ∧ Rd (w.alloc (.cells #[.int .i64 1, .int .i64 2, .int .i64 2, .int .i64 3, .int .i64 3, .int .i64 1, .int .i64 4, .int .i64 1] 50)) 2 encE (.slice (some ⟨g, 0, none⟩) 4 4) E4) := hid ⟨(Chg.refl NoB w).alloc _, Rd.of_blk (enc := encE) (l := E4) (fun _ => rfl) (by rw [hg.out]; exact blk_new w _) rfl (by decide)⟩
  rw [← hg.out]
  refine wp_gen (fun W => Hid (Chg NoB w W ∧ Rd W 2 encE (.slice (some ⟨g, 0, none⟩) 4 4) E4) ∧ g < W.heap.size) ⟨h1, by simp [hg.out]⟩ ?_
  rintro w1 ⟨H1, hgs⟩
  clear h1
  go_wp2_with fail
  refine (order_cyc w1 _ E4 H1.out.2 (by decide) E4W (by rw [E4c]; simp)).mono ?_
  rintro ee w2 ⟨rfl, c2⟩
  go_wp2_with fail
  refine (order_ok _ _ E3 (Rd.of_blk (enc := encE) (l := E3) (fun _ => rfl) (blk_new w2 _) rfl (by decide)) (by decide) E3W E3c).mono ?_
  rintro ee w3 ⟨lv, rfl, ho3, c3⟩
  rw [E3o] at ho3
  obtain ⟨la, lc, e1⟩ := ownsForm ho3.out.1
  subst e1
  go_wp2_with fail
  refine (lockNew' w3).mono ?_
  rintro e w4 ⟨⟨p, rs, rfl, h4, hn⟩, c4⟩
  have hls : ∀ b, OwnB (.slice la 4 lc) b → b < w3.heap.size := fun b hb => (OwnB.ge ho3.out.1 b hb).2
  go_wp2_with fail
  refine (lockTake p rs lkEmpty 2 0 1 w4 h4 0 (hid (by kernel_rfl)) awT rfl).mono ?_
  rintro e w5 ⟨rfl, h5, c5⟩
  have HK5 : Hid (AwK w w5 (.slice (some ⟨g, 0, none⟩) 4 4) (.slice la 4 lc) p rs) := hid (by
    have hz2 := c2.out.size
    have hz3 := c3.out.size
    have hz4 := c4.size
    simp at hz3
    have c3' : Chg NoB w2 w3 := ((Chg.refl NoB w2).alloc _).trans' c3.out
    refine ⟨((((H1.out.1.trans' c2.out).trans' c3').trans' c4).new c5 fun i hi => ?_), ?_, ?_, h5⟩
    · have := hn i (List.mem_cons_of_mem _ hi); have := H1.out.1.size; omega
    · refine Rd.keep (((H1.out.2.keep c2.out (fun _ _ _ => nob)).keep c3' (fun _ _ _ => nob)).keep c4 (fun _ _ _ => nob)) c5 ?_
      rintro b off ⟨n, c, hb⟩ hi
      cases hb
      have := hn _ (List.mem_cons_of_mem _ hi)
      omega
    · refine Rd.keep ((Rd.ints_of ho3.out.1).keep c4 (fun _ _ _ => nob)) c5 ?_
      rintro b off ⟨n, c, hb⟩ hi
      cases hb
      have := hn _ (List.mem_cons_of_mem _ hi)
      have := hls b (by simp [OwnB, Value.ownBlock])
      omega)
  clear h4 c4 h5 c5 hn hls ho3 c3 c2 H1
  go_wp2_with fail
  refine (cycle_calls w5 _ E4 HK5.out.e (by decide) E4W).mono ?_
  rintro ee w6 ⟨v6, rfl, h6, c6⟩
  rw [E4c] at h6
  obtain ⟨a6, n6, e1⟩ := ownsForm h6.out.1
  subst e1
  go_wp2_with fail
  refine (sameC _ _ [1, 2, 3] [1, 2, 3] _ ((Rd.ints_of h6.out.1).keep ((Chg.refl NoB w6).alloc _) (fun _ _ _ => nob)) (Rd.of_blk (enc := encI) (l := [1, 2, 3]) (fun _ => rfl) (blk_new w6 _) rfl (by decide)) true (hid (by kernel_rfl))).mono ?_
  rintro ee w7 ⟨rfl, c7⟩
  have HK7 := hid (HK5.out.keep ((c6.out.alloc _).trans' c7.out))
  clear h6 c6 c7 HK5
  go_wp2_with fail
  refine (victims_calls w7 _ E4 HK7.out.e (by decide) E4W).mono ?_
  rintro ee w8 ⟨v8, rfl, h8, c8⟩
  rw [E4v] at h8
  obtain ⟨a8, n8, e1⟩ := ownsForm h8.out.1
  subst e1
  go_wp2_with fail
  refine (sameC _ _ [3] [3] _ ((Rd.ints_of h8.out.1).keep ((Chg.refl NoB w8).alloc _) (fun _ _ _ => nob)) (Rd.of_blk (enc := encI) (l := [3]) (fun _ => rfl) (blk_new w8 _) rfl (by decide)) true (hid (by kernel_rfl))).mono ?_
  rintro ee w9 ⟨rfl, c9⟩
  have HK9 := hid (HK7.out.keep ((c8.out.alloc _).trans' c9.out))
  clear h8 c8 c9 HK7
  go_wp2_with fail
  refine (sameC _ _ [3, 2, 1, 4] [3, 2, 1, 4] _ (HK9.out.l.keep ((Chg.refl NoB w9).alloc _) (fun _ _ _ => nob)) (Rd.of_blk (enc := encI) (l := [3, 2, 1, 4]) (fun _ => rfl) (blk_new w9 _) rfl (by decide)) true (hid (by kernel_rfl))).mono ?_
  rintro ee w10 ⟨rfl, c10⟩
  have HK10 := hid (HK9.out.keep (((Chg.refl NoB w9).alloc _).trans' c10.out))
  clear c10 HK9
  go_wp2_with fail
  refine (pbl_calls _ p rs awT (HK10.out.keep ((Chg.refl NoB w10).alloc _)).t 3 1 0 _ _ _ _ _ _ [1, 2] (Rd.of_blk (enc := encI) (l := [1, 2]) (fun _ => rfl) (blk_new w10 _) rfl (by decide)) (by decide)).mono ?_
  rintro ee w11 ⟨v11, rfl, h11, c11⟩
  rw [awB1] at h11
  obtain ⟨a11, n11, e1⟩ := ownsForm h11.out.1
  subst e1
  go_wp2_with fail
  refine (sameC _ _ [2] [2] _ ((Rd.ints_of h11.out.1).keep ((Chg.refl NoB w11).alloc _) (fun _ _ _ => nob)) (Rd.of_blk (enc := encI) (l := [2]) (fun _ => rfl) (blk_new w11 _) rfl (by decide)) true (hid (by kernel_rfl))).mono ?_
  rintro ee w12 ⟨rfl, c12⟩
  have HK12 := hid (HK10.out.keep (((((Chg.refl NoB w10).alloc _).trans' c11.out).alloc _).trans' c12.out))
  clear h11 c11 c12 HK10
  go_wp2_with fail
  refine (pbl_calls _ p rs awT (HK12.out.keep ((Chg.refl NoB w12).alloc _)).t 2 1 0 _ _ _ _ _ _ [2] (Rd.of_blk (enc := encI) (l := [2]) (fun _ => rfl) (blk_new w12 _) rfl (by decide)) (by decide)).mono ?_
  rintro ee w13 ⟨v13, rfl, h13, c13⟩
  rw [awB2] at h13
  obtain rfl := h13.out.2 rfl
  have HC := hid (((HK12.out.chg).alloc _).trans' c13.out)
  clear h13 c13 HK12
  go_wp2_with fail
  go_ret
  exact ⟨rfl, HC⟩
end Go.Proofs.Ytlhblkpdfdpiaaa.Wt
