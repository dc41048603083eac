import Derived.Test.YtlhblkpdfdpiaaaWtRo
import Derived.Test.YtlhblkpdfdpiaaaLkRel
namespace Go.Proofs.Ytlhblkpdfdpiaaa.Wt
open Go.RowKit Go.ChangeMaps Go.MapKept Go.Shelf
set_option linter.unusedVariables false
set_option linter.unusedSimpArgs false
set_option linter.unnecessarySimpa false
set_option maxHeartbeats 16000000

/-! Who is in the way of an operation. -/
def bstep (f : Int → Bool) (acc : List Int) (n : Int) : List Int := if (f n && !acc.contains n) = true then acc ++ [n] else acc
def blk (f : Int → Bool) (l : List Int) : List Int := l.foldl (bstep f) []
theorem blk_snoc (f : Int → Bool) (l : List Int) (n : Int) : blk f (l ++ [n]) = bstep f (blk f l) n := by simp [blk, List.foldl_append]
theorem bstep_len (f : Int → Bool) (acc : List Int) (n : Int) : (bstep f acc n).length ≤ acc.length + 1 := by
  unfold bstep; split <;> simp
theorem blk_len (f : Int → Bool) (l : List Int) (k : Nat) : k ≤ l.length → (blk f (l.take k)).length ≤ k := by
  induction k with
  | zero => intro _; simp [blk]
  | succ k ih =>
    intro hk
    rw [List.take_succ_eq_append_getElem hk, blk_snoc]
    have := bstep_len f (blk f (l.take k)) l[k]
    have := ih (by omega)
    omega
def mdK (k : Int) : Int := if k = 2 then 1 else 2
def opIn (k : Int) : Prop := k = 2 ∨ k = 3 ∨ k = 4
instance (k : Int) : Decidable (opIn k) := by unfold opIn; infer_instance
def pF (t : LTab) (k tx pg n : Int) : Bool := (n != tx) && (decide (0 < lkMode t n pg) && (max (lkMode t n pg) (mdK k) == 2))
def rF (L : List RRow) (k tx pg n : Int) : Bool := (n != tx) && ((rfMode L n pg == 2) || ((rfMode L n pg == 1) && (k != 2)))
def pBl (t : LTab) (k tx pg : Int) (l : List Int) : List Int := if opIn k then blk (pF t k tx pg) l else []
def rBl (L : List RRow) (k tx pg : Int) (l : List Int) : List Int := if k < 2 ∨ k > 4 ∨ pg < 0 ∨ pg > 7 then [] else blk (rF L k tx pg) l

theorem contains_calls (w : World) (v : Value) (l : List Int) (hv : Rd w 1 encI v l) (n : Int) (res : Bool) (hres : Hid (res = l.contains n)) :
    Calls Try.prog 28 #[v, .int .i64 n] w fun e w' => e = .returned (.bool res) ∧ w = w' := by
  obtain ⟨a, c, rfl, q1, q2, hr⟩ := hv
  unfold maxLen at q2
  rw [hres.out]
  rcases Nat.eq_zero_or_pos l.length with h0 | h0
  · rw [h0, List.eq_nil_of_length_eq_zero h0]
    refine (AnyG.slices_Contains_int_empty Try.containsA a c n w).mono ?_
    rintro ee w' ⟨rfl, rfl⟩
    exact ⟨rfl, rfl⟩
  · obtain ⟨b, off, hab, _⟩ := hr 0 _ (List.getElem?_eq_getElem h0)
    subst hab
    refine (AnyG.slices_Contains_int Try.containsA b off l.length c l n w (Nat.le_refl _) (by omega) (fun j hj => ?_)).mono ?_
    · obtain ⟨b', off', hab, h2⟩ := hr j _ (List.getElem?_eq_getElem hj)
      cases hab
      have := h2 0 _ rfl
      rw [List.getD_eq_getElem?_getD, List.getElem?_eq_getElem hj]
      simpa using this
    · rintro ee w' ⟨rfl, rfl⟩
      rw [List.take_length]
      exact ⟨rfl, rfl⟩

theorem OwnL.le {w W w' : World} {v : Value} {l : List Int} (h : OwnL W w' v l) (hB : w.heap.size ≤ W.heap.size) : OwnL w w' v l :=
  ⟨⟨h.1.1, h.1.2.imp id fun ⟨g, cap, cur, e1, e2, e3⟩ => ⟨g, cap, cur, e1, Nat.le_trans hB e2, e3⟩⟩, h.2⟩
theorem LockAt.keepC {w w' : World} {p : Nat} {rs : List Nat} {t : LTab} (h : LockAt w p rs t) (hc : Chg NoB w w') : LockAt w' p rs t := h.keep hc (fun e => e) (fun _ _ e => e)

set_option maxRecDepth 100000 in
theorem pbl_calls (w : World) (p : Nat) (rs : List Nat) (t : LTab) (hL : LockAt w p rs t) (kd tx pg : Int) (x3 x4 x5 x6 x7 : Value) (v : Value) (l : List Int) (hv : Rd w 1 encI v l) (hl : l.length ≤ 1000) :
    Calls Try.prog 19 #[.pointer (some ⟨p, 0, none⟩), .agg #[.int .i64 kd, .int .i64 tx, .int .i64 pg, x3, x4, x5, x6, x7], v] w fun ee w' => ∃ v', ee = .returned v' ∧ Hid (OwnL w w' v' (pBl t kd tx pg l)) ∧ Hid (Chg NoB w w') := by
  have HL := hid hL
  have HV := hid hv
  obtain ⟨a, c, rfl, q1, q2, hr⟩ := hv
  unfold maxLen at q2
  have HR := hid hr
  clear hr hL
  go_enter Try.func19, Try.ntmps19
  go_upto_region 1 with fail
  obtain ⟨nb, hnb⟩ := named w.heap.size
  have hw1 : Hid (Chg NoB w (w.alloc (.cells #[.int .i64 kd, .int .i64 tx, .int .i64 pg, x3, x4, x5, x6, x7] 37))) := hid ((Chg.refl NoB w).alloc _)
  have hb0 : Hid ((w.alloc (.cells #[.int .i64 kd, .int .i64 tx, .int .i64 pg, x3, x4, x5, x6, x7] 37)).heap[nb]? = some (.cells #[.int .i64 kd, .int .i64 tx, .int .i64 pg, x3, x4, x5, x6, x7] 37 (0, 0))) := hid (by rw [hnb.out]; exact blk_new _ _)
  rw [← hnb.out]
  refine wp_gen (fun W => Hid (Chg NoB w W) ∧ Hid (W.heap[nb]? = some (.cells #[.int .i64 kd, .int .i64 tx, .int .i64 pg, x3, x4, x5, x6, x7] 37 (0, 0)))) ⟨hw1, hb0⟩ ?_
  rintro W ⟨HC, HB⟩
  clear hw1 hb0
  have g0 : W.cell? ⟨nb, 0, none⟩ = some (.int .i64 kd) := cell_blk HB.out 0
  by_cases hop : opIn kd
  · have hmd : ∃ (F : Int → Bool) (md : Int), Hid (∀ l, pBl t kd tx pg l = blk F l) ∧ Hid (∀ n, F n = ((n != tx) && (decide (0 < lkMode t n pg) && (max (lkMode t n pg) md == 2)))) ∧ (kd = 2 ∧ md = 1 ∨ kd = 3 ∧ md = 2 ∨ kd = 4 ∧ md = 2) := by
      refine ⟨pF t kd tx pg, mdK kd, hid (fun l => by rw [pBl, if_pos hop]), hid (fun n => rfl), ?_⟩
      rcases hop with rfl | rfl | rfl <;> simp [mdK]
    clear hop
    obtain ⟨F, md, HSP, HF, hmd⟩ := hmd
    rcases hmd with ⟨rfl, rfl⟩ | ⟨rfl, rfl⟩ | ⟨rfl, rfl⟩
    all_goals
      go_wp2_with fail
      go_loopw [6, 20] (fun s6 s20 wr => ∃ k : Nat, k ≤ l.length ∧ s20 = .int .i64 k ∧ Hid (OwnL W wr s6 (blk F (l.take k)) ∧ Chg NoB W wr)) (fun _ k _ => l.length - (intOf k).toNat)
      case atStart => exact ⟨0, by omega, rfl, hid ⟨⟨World.ownsRow_nil _ _ _ _, fun _ => rfl⟩, Chg.refl _ _⟩⟩
      case round =>
        obtain ⟨k, hk, rfl, hI⟩ := hrel
        obtain ⟨oa, oc, e1⟩ := ownsForm hI.out.1.1
        subst e1
        by_cases hlt : k < l.length
        · obtain ⟨n, hn⟩ := named l[k]
          obtain ⟨b, off, hab, h2⟩ := Rd.cells HR.out (HC.out.trans' hI.out.2) k hlt
          rw [← hn.out] at h2
          subst hab
          have h2 := h2 0 _ rfl
          simp only [Nat.add_zero, Nat.mul_one] at h2
          obtain ⟨m, hm⟩ := named (lkMode t n pg)
          have hFn := HF.out n
          rw [← hm.out] at hFn
          obtain ⟨acc, hacc⟩ := named (blk F (l.take k))
          have HSN : Hid (blk F (l.take (k + 1)) = bstep F acc n) := hid (by rw [List.take_succ_eq_append_getElem hlt, blk_snoc, ← hacc.out, ← hn.out])
          have HAL : acc.length ≤ 1000 := by rw [hacc.out]; have := blk_len F l k (by omega); omega
          rw [← hacc.out] at hI
          rw [← hacc.out]
          have hskip : F n = false → Hid (bstep F acc n = acc) := fun h => hid (by simp [bstep, h])
          have HO := hid hI.out.1
          have HCW := hid hI.out.2
          have HLW := hid (LockAt.keepC HL.out (HC.out.trans' HCW.out))
          have x0 : wr.cell? ⟨nb, 0, none⟩ = some (.int .i64 _) := cell_blk (HCW.out.heap HB.out nob) 0
          have x1 : wr.cell? ⟨nb, 1, none⟩ = some (.int .i64 tx) := cell_blk (HCW.out.heap HB.out nob) 1
          have x2 : wr.cell? ⟨nb, 2, none⟩ = some (.int .i64 pg) := cell_blk (HCW.out.heap HB.out nob) 2
          have HCN := hid (contains_calls wr _ acc (Rd.ints_of HO.out.1) n _ (hid rfl))
          clear hI g0
          cases c1 : (n != tx)
          · have HK := hskip (by rw [hFn, c1]; rfl)
            clear hFn hskip
            go_wp2_with (go_at_call 41; refine (lockMode p rs t n pg wr HLW.out m hm).mono ?_; rintro e w1 ⟨rfl, rfl⟩)
            go_roundw
            case rel => exact ⟨k + 1, by omega, by go_num, hid ⟨by rw [HSN.out, HK.out]; exact HO.out, HCW.out⟩⟩
            case measure => simp [intOf]; omega
          · cases c2 : decide (0 < m)
            · have HK := hskip (by rw [hFn, c2]; simp)
              clear hFn hskip
              go_wp2_with (go_at_call 41; refine (lockMode p rs t n pg wr HLW.out m hm).mono ?_; rintro e w1 ⟨rfl, rfl⟩)
              go_roundw
              case rel => exact ⟨k + 1, by omega, by go_num, hid ⟨by rw [HSN.out, HK.out]; exact HO.out, HCW.out⟩⟩
              case measure => simp [intOf]; omega
            · cases c3 : (max m _ == (2 : Int))
              · have HK := hskip (by rw [hFn, c3]; simp)
                clear hFn hskip
                go_wp2_with (go_at_call 41; refine (lockMode p rs t n pg wr HLW.out m hm).mono ?_; rintro e w1 ⟨rfl, rfl⟩)
                go_roundw
                case rel => exact ⟨k + 1, by omega, by go_num, hid ⟨by rw [HSN.out, HK.out]; exact HO.out, HCW.out⟩⟩
                case measure => simp [intOf]; omega
              · have hFt : F n = true := by rw [hFn, c1, c2, c3]; rfl
                cases c4 : acc.contains n
                · have HK : Hid (bstep F acc n = acc ++ [n]) := hid (by unfold bstep; rw [hFt, c4]; rfl)
                  rw [c4] at HCN
                  clear hFn hskip hFt
                  go_wp2_with (first
                    | (go_at_call 41; refine (lockMode p rs t n pg wr HLW.out m hm).mono ?_; rintro e w1 ⟨rfl, rfl⟩)
                    | (go_at_call 28; refine HCN.out.mono ?_; rintro e w1 ⟨rfl, rfl⟩)
                    | (at_builtin; refine step_app1 slInt rfl _ _ rfl (World.ownsRow.alloc HO.out.1 _) rfl wr.heap.size [.int .i64 n] rfl (blk_new _ _) rfl rfl (by simp [Value.oneCell']) (by omega) (by unfold maxLen; omega) (by have := HCW.out.size; have := HC.out.size; simp; omega) ?_; intro v5 w5 hv5 hc5 hn5 hnil))
                  obtain ⟨a5, n5, rfl⟩ := ownsForm hv5
                  have HV5 := hid hv5
                  have HC5 := hid ((HCW.out.alloc (.cells #[.int .i64 n] 3)).new hc5 (fun b hb => (OwnB.ge HO.out.1 b hb).1))
                  clear hv5 hc5 hn5 hnil
                  go_wp2_with fail
                  go_roundw
                  case rel => exact ⟨k + 1, by omega, by go_num, hid ⟨⟨by rw [HSN.out, HK.out]; simpa using HV5.out, fun h => by rw [HSN.out, HK.out] at h; simp at h⟩, HC5.out⟩⟩
                  case measure => simp [intOf]; omega
                · have HK : Hid (bstep F acc n = acc) := hid (by unfold bstep; rw [hFt, c4]; rfl)
                  rw [c4] at HCN
                  clear hFn hskip hFt
                  go_wp2_with (first
                    | (go_at_call 41; refine (lockMode p rs t n pg wr HLW.out m hm).mono ?_; rintro e w1 ⟨rfl, rfl⟩)
                    | (go_at_call 28; refine HCN.out.mono ?_; rintro e w1 ⟨rfl, rfl⟩))
                  go_roundw
                  case rel => exact ⟨k + 1, by omega, by go_num, hid ⟨by rw [HSN.out, HK.out]; exact HO.out, HCW.out⟩⟩
                  case measure => simp [intOf]; omega
        · obtain rfl : l.length = k := by omega
          rw [List.take_length] at hI
          rw [List.take_length]
          go_wp2_with fail
          go_ret
          exact ⟨_, rfl, hid (by rw [HSP.out]; exact hI.out.1.le HC.out.size), hid (HC.out.trans' hI.out.2)⟩
  · have HSP : Hid (∀ l, pBl t kd tx pg l = []) := hid (fun l => by rw [pBl, if_neg hop])
    have hmd : ¬ (kd = 2 ∨ kd = 3 ∨ kd = 4) := hop
    have b2 : (kd == 2) = false := by simp; omega
    have b3 : (kd == 3) = false := by simp; omega
    have b4 : (kd == 4) = false := by simp; omega
    clear hop hmd
    go_wp2_with fail
    go_ret
    exact ⟨_, rfl, hid (by rw [HSP.out]; exact ⟨World.ownsRow_nil _ _ _ _, fun _ => rfl⟩), HC⟩
end Go.Proofs.Ytlhblkpdfdpiaaa.Wt
