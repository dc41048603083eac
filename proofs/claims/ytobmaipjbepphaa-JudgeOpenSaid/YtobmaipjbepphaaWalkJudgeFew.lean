import Derived.Test.YtobmaipjbepphaaJuAk
import Derived.Test.YtobmaipjbepphaaJuLaw
namespace Go.Proofs.Ytobmaipjbepphaa
open Go.RowKit Go.ChangeMaps Go.MapKept
set_option linter.unusedVariables false
set_option maxHeartbeats 8000000

theorem okk_of {w : World} {v : Value} {l : List Ent} (hv : Ents w v l) (hf : true = entsFew l) : ∀ x ∈ l, x.r.okk := by
  intro x hx
  obtain ⟨i, hi⟩ := List.getElem?_of_mem hx
  obtain ⟨a, c, _, _, _, h⟩ := hv
  obtain ⟨cs, b, off, ⟨v1, v2, _, _, hok, _⟩, _⟩ := h i x hi
  simp only [entsFew, Bool.true_eq, Bool.and_eq_true, List.all_eq_true] at hf
  have h9 := hf.1 x hx
  unfold Rec.few at h9
  simp only [Bool.and_eq_true, decide_eq_true_eq] at h9
  exact ⟨hok, by omega, by omega⟩
theorem few_200 {l : List Ent} (hf : true = entsFew l) : l.length ≤ 200 := by
  simp only [entsFew, Bool.true_eq, Bool.and_eq_true, decide_eq_true_eq] at hf
  exact hf.2

theorem mget_mput {ν : Type} (m : List (Int × ν)) (k : Int) (v : ν) (t : Int) : mget (mput m k v) t = if t = k then some v else mget m t := by
  unfold mput mget
  by_cases ha : m.any (fun p => p.1 == k) = true
  · rw [if_pos ha]
    induction m with
    | nil => simp at ha
    | cons x m ih =>
      rw [List.map_cons]
      by_cases hx : x.1 = k
      · rw [if_pos (by simp [hx])]
        by_cases ht : t = k
        · rw [List.find?_cons_of_pos (by simp [ht]), if_pos ht]; rfl
        · rw [List.find?_cons_of_neg (by simp; exact fun h => ht h.symm), List.find?_cons_of_neg (by simp [hx]; exact fun h => ht h.symm), if_neg ht]
          clear ih ha
          induction m with
          | nil => rfl
          | cons y m ih =>
            rw [List.map_cons]
            by_cases hy : y.1 = k
            · rw [if_pos (by simp [hy]), List.find?_cons_of_neg (by simp; exact fun h => ht h.symm), List.find?_cons_of_neg (by simp [hy]; exact fun h => ht h.symm), ih]
            · rw [if_neg (by simp [hy])]
              by_cases hyt : y.1 = t
              · rw [List.find?_cons_of_pos (by simp [hyt]), List.find?_cons_of_pos (by simp [hyt])]
              · rw [List.find?_cons_of_neg (by simp [hyt]), List.find?_cons_of_neg (by simp [hyt]), ih]
      · rw [if_neg (by simp [hx])]
        have ha' : m.any (fun p => p.1 == k) = true := by simpa [hx] using ha
        by_cases hxt : x.1 = t
        · rw [List.find?_cons_of_pos (by simp [hxt]), List.find?_cons_of_pos (by simp [hxt]), if_neg (fun h => hx (hxt.trans h))]
        · rw [List.find?_cons_of_neg (by simp [hxt]), List.find?_cons_of_neg (by simp [hxt])]
          exact ih ha'
  · rw [if_neg ha, List.find?_append]
    have hno : ∀ x ∈ m, x.1 ≠ k := fun x hx h => ha (List.any_eq_true.2 ⟨x, hx, by simp [h]⟩)
    by_cases ht : t = k
    · have : m.find? (fun p => p.1 == t) = none := List.find?_eq_none.2 (fun x hx => by simpa [ht] using hno x hx)
      rw [this, if_pos ht]; simp [ht]
    · rw [if_neg ht]
      cases hf : m.find? (fun p => p.1 == t) with
      | some x => rfl
      | none =>
        rw [show List.find? (fun p => p.1 == t) [(k, v)] = none from by rw [List.find?_cons_of_neg (by simp; exact fun h => ht h.symm)]; rfl]; rfl

/-- The two counts. -/
structure CntI (w wr : World) (r1 r2 : Nat) (U V : List (Int × Int)) (l : List Ent) : Prop where
  m1 : MapI wr r1 (Value.int .i64) U
  m2 : MapI wr r2 (Value.int .i64) V
  chg : Chg NoB w wr
  ne : r1 ≠ r2 ∧ w.heap.size ≤ r1 ∧ w.heap.size ≤ r2
  cu : ∀ t, (mget U t).getD 0 = (upC l t : Int)
  cv : ∀ t, (mget V t).getD 0 = (unC l t : Int)
theorem CntI.keep {w wr w2 : World} {r1 r2 : Nat} {U V : List (Int × Int)} {l : List Ent} (h : CntI w wr r1 r2 U V l) (hc : Chg NoB wr w2) : CntI w w2 r1 r2 U V l :=
  ⟨h.m1.chg hc nob, h.m2.chg hc nob, h.chg.trans' hc, h.ne, h.cu, h.cv⟩

set_option maxRecDepth 100000 in
theorem judgeFew_walk (w : World) (v : Value) (l : List Ent) (hv : Ents w v l) :
    Calls Try.prog 3 #[v] w fun e w' => e = .returned (.bool true) ∧ Chg NoB w w' := by
  obtain ⟨f, hf⟩ := named (entsFew l)
  have HV := hid hv
  obtain ⟨a, c, rfl, q1, q2, h3⟩ := hv
  have H3 := hid h3
  unfold maxLen at q2
  clear h3
  cases f
  · go_enter Try.func3, Try.ntmps3
    go_wp2_with (first
      | (go_at_call 6; refine (awake w).mono ?_; rintro e w1 ⟨rfl, c1⟩)
      | (go_at_call 7; refine (entsFew_calls _ l _ (HV.out.mono c1) _ hf).mono ?_; rintro e w2 ⟨rfl, c2⟩))
    refine (awake w2).mono ?_
    rintro e w3 ⟨rfl, c3⟩
    go_wp2
    go_ret
    exact ⟨rfl, c1.trans' (c2.trans' c3)⟩
  have h200 := few_200 hf.out
  have hokk := hid (okk_of HV.out hf.out)
  obtain ⟨O, hO⟩ := named (jFaults jNew l)
  by_cases h0 : 0 < O.length
  · have h0i : (0 : Int) < (O.length : Int) := by omega
    go_enter Try.func3, Try.ntmps3
    go_wp2_with (first
      | (go_at_call 6; refine (awake w).mono ?_; rintro e w1 ⟨rfl, c1⟩)
      | (go_at_call 7; refine (entsFew_calls _ l _ (HV.out.mono c1) _ hf).mono ?_; rintro e w2 ⟨rfl, c2⟩)
      | (go_at_call 8; refine (faults_calls _ l _ (HV.out.mono (c1.trans' c2)) (by omega) hokk.out O hO).mono ?_; rintro e w4 ⟨vo, rfl, ho4, c4⟩; obtain ⟨ao, co, rfl⟩ := ho4.out.form))
    refine (awake w4).mono ?_
    rintro e w3 ⟨rfl, c3⟩
    go_wp2
    go_ret
    exact ⟨rfl, c1.trans' (c2.trans' (c4.out.trans' c3))⟩
  obtain rfl : O = [] := List.eq_nil_of_length_eq_zero (by omega)
  have HL : Hid (∀ k t, unC (l.take k) t ≤ upC (l.take k) t) := hid (fun k t => few_law hO.out.symm k t)
  have hmm := @run_makeMap Try.prog
  go_enter Try.func3, Try.ntmps3
  go_wp2_with (first
    | (go_at_call 6; refine (awake w).mono ?_; rintro e w1 ⟨rfl, c1⟩)
    | (go_at_call 7; refine (entsFew_calls _ l _ (HV.out.mono c1) _ hf).mono ?_; rintro e w2 ⟨rfl, c2⟩)
    | (go_at_call 8; refine (faults_calls _ l _ (HV.out.mono (c1.trans' c2)) (by omega) hokk.out [] hO).mono ?_; rintro e w4 ⟨vo, rfl, ho4, c4⟩; obtain ⟨ao, co, rfl⟩ := ho4.out.form; simp only [List.length_nil]))
  have hcc : Chg NoB w w4 := c1.trans' (c2.trans' c4.out)
  have HI : Hid (CntI w ((w4.alloc (.map #[] 0)).alloc (.map #[] 0)) w4.heap.size (w4.heap.size + 1) [] [] []) := hid ⟨⟨#[], 0, blk_alloc (blk_new _ _) _, by simp [Stamped], by simp⟩, ⟨#[], 0, by rw [show w4.heap.size + 1 = (w4.alloc (.map #[] 0)).heap.size by simp]; exact blk_new _ _, by simp [Stamped], by simp⟩, (hcc.alloc _).alloc _, ⟨by omega, hcc.size, by have := hcc.size; omega⟩, fun t => rfl, fun t => rfl⟩
  obtain ⟨r1, hr1⟩ := named w4.heap.size
  rw [← hr1.out] at HI ⊢
  clear hmm c1 c2 c4 hcc ho4
  go_loopw [25] (fun i wr => ∃ k : Nat, k ≤ l.length ∧ i = .int .i64 k ∧ Hid (∃ U V, CntI w wr r1 (r1 + 1) U V (l.take k))) (fun i _ => l.length - toN i)
  case atStart => exact ⟨0, by omega, rfl, [], [], HI.out⟩
  case round =>
    obtain ⟨k, hk, rfl, hI⟩ := hrel
    clear HI
    obtain ⟨U, V, hI⟩ := hI.out
    replace hI := hid hI
    by_cases hlt : k < l.length
    · obtain ⟨x, b, off, v1, v2, hx, rfl, ht, hok, hE, hbl, hone⟩ := Ents.at H3.out hI.out.chg k hlt
      obtain ⟨⟨a1, n1, rfl, _, _, _⟩, ⟨a2, n2, rfl, _, _, _⟩⟩ := ht
      obtain ⟨c0, q0, q1, q2, q3, q4, q5, q6, q7, q8, q9, q10⟩ := hE.cells
      have hsz := hI.out.chg.size
      have hup : Hid (∀ t, upC (l.take (k + 1)) t = upC (l.take k) t + (if x.r.kind = 1 ∧ x.r.txn = t then 1 else 0)) := hid (fun t => by rw [take_snoc' hlt, upC_snoc, hx.out])
      have hun : Hid (∀ t, unC (l.take (k + 1)) t = unC (l.take k) t + (if x.r.kind = 2 ∧ x.r.txn = t then 1 else 0)) := hid (fun t => by rw [take_snoc' hlt, unC_snoc, hx.out])
      obtain ⟨nu, hnu⟩ := named (upC (l.take k) x.r.txn)
      obtain ⟨nv, hnv⟩ := named (unC (l.take k) x.r.txn)
      have hnu2 : nu ≤ 200 := by rw [hnu.out]; have := upC_le (l.take k) x.r.txn; simp at this; omega
      have hnv2 : nv ≤ 200 := by rw [hnv.out]; have := unC_le (l.take k) x.r.txn; simp at this; omega
      have HA := hid (hI.out.keep ((Chg.refl NoB wr).alloc (.cells (encE (x, .slice a1 x.r.txns.length n1, .slice a2 x.r.pages.length n2)).toArray 32)))
      have hlu : Hid ((mget U x.r.txn).getD 0 = (nu : Int)) := hid (by rw [hI.out.cu, hnu.out])
      have hlv : Hid ((mget V x.r.txn).getD 0 = (nv : Int)) := hid (by rw [hI.out.cv, hnv.out])
      have hrl : r1 + 1 < wr.heap.size := hI.out.m2.lt
      unfold encE Rec.cs at HA
      clear hE
      by_cases hk1 : x.r.kind = 1
      · have b1 : (x.r.kind == 1) = true := by simp [hk1]
        have HK := hid hk1
        clear hk1
        go_wp2_with (first
          | (at_lookup; refine step_lookup_int HA.out.m1 rfl _ _ 26 3 3 rfl Try.underlying26 Try.underlying3 (zero_int _) x.r.txn rfl rfl ?_; rw [hlu.out])
          | (at_mapUpdate; refine step_mapUpdate HA.out.m1 rfl _ _ _ 26 3 3 rfl Try.underlying26 Try.underlying3 x.r.txn ((nu : Int) + 1) rfl rfl rfl ?_; intro w6 hm6 hc6 hs6))
        go_roundw
        case rel =>
          refine ⟨k + 1, by omega, by go_num, hid ⟨_, V, hm6, HA.out.m2.chg hc6 (fun e => by have h' : r1 + 1 = r1 := e; omega), HA.out.chg.trans hc6 (fun i hi => .inr (by have h' : i = r1 := hi; have := hI.out.ne.2.1; omega)), hI.out.ne, fun t => ?_, fun t => ?_⟩⟩
          · rw [mget_mput, hup.out t]
            by_cases ht : t = x.r.txn
            · subst ht; rw [if_pos rfl, if_pos ⟨HK.out, rfl⟩, ← hnu.out]; simp
            · rw [if_neg ht, if_neg (fun h => ht h.2.symm), hI.out.cu]; simp
          · rw [hI.out.cv, hun.out t, if_neg (fun h => by have := HK.out; omega)]; simp
        case measure => simp [toN]; omega
      · have b1 : (x.r.kind == 1) = false := by simp [hk1]
        by_cases hk2 : x.r.kind = 2
        · have b2 : (x.r.kind == 2) = true := by simp [hk2]
          have HK := hid hk2
          have hle : nv + 1 ≤ nu := by
            have := HL.out (k + 1) x.r.txn
            rw [hup.out, hun.out, if_pos ⟨hk2, rfl⟩, if_neg (fun h => hk1 h.1), ← hnu.out, ← hnv.out] at this
            omega
          have hle' : ¬ ((nu : Int) < (nv : Int) + 1) := by omega
          clear hk1 hk2 b1
          have b1 : (x.r.kind == 1) = false := by rw [HK.out]; rfl
          go_upto_region 12 with (first
            | (at_lookup; refine step_lookup_int HA.out.m2 rfl _ _ 26 3 3 rfl Try.underlying26 Try.underlying3 (zero_int _) x.r.txn rfl rfl ?_; rw [hlv.out])
            | (at_mapUpdate; refine step_mapUpdate HA.out.m2 rfl _ _ _ 26 3 3 rfl Try.underlying26 Try.underlying3 x.r.txn ((nv : Int) + 1) rfl rfl rfl ?_; intro w6 hm6 hc6 hs6))
          have hc7 : Chg NoB w w6 := HA.out.chg.trans hc6 (fun i hi => .inr (by have h' : i = r1 + 1 := hi; have := hI.out.ne.2.2; omega))
          have hm7 := HA.out.m1.chg hc6 (fun e => by have h' : r1 = r1 + 1 := e; omega)
          have HM6 := hid hm6
          have HM7 := hid hm7
          have HC7 := hid hc7
          have hlk : Hid ((mget (mput V x.r.txn ((nv : Int) + 1)) x.r.txn).getD 0 = (nv : Int) + 1) := hid (by rw [mget_mput, if_pos rfl]; rfl)
          have e0 : w6.cell? ⟨wr.heap.size, 2, none⟩ = some (.int .i64 x.r.txn) := hc6.cell (by rw [cell_blk (blk_new _ _)]; rfl) (fun e => by have h' : wr.heap.size = r1 + 1 := e; omega)
          clear hm6 hc6 hs6 hm7 hc7
          go_wp2_with (first
            | (at_lookup; refine step_lookup_int HM6.out rfl _ _ 26 3 3 rfl Try.underlying26 Try.underlying3 (zero_int _) x.r.txn rfl rfl ?_; rw [hlk.out])
            | (at_lookup; refine step_lookup_int HM7.out rfl _ _ 26 3 3 rfl Try.underlying26 Try.underlying3 (zero_int _) x.r.txn rfl rfl ?_; rw [hlu.out]))
          go_roundw
          case rel =>
            refine ⟨k + 1, by omega, by go_num, hid ⟨U, _, HM7.out, HM6.out, HC7.out, hI.out.ne, fun t => ?_, fun t => ?_⟩⟩
            · rw [hI.out.cu, hup.out t, if_neg (fun h => by have := HK.out; omega)]; simp
            · rw [mget_mput, hun.out t]
              by_cases ht : t = x.r.txn
              · subst ht; rw [if_pos rfl, if_pos ⟨HK.out, rfl⟩, ← hnv.out]; simp
              · rw [if_neg ht, if_neg (fun h => ht h.2.symm), hI.out.cv]; simp
          case measure => simp [toN]; omega
        · have b2 : (x.r.kind == 2) = false := by simp [hk2]
          have HK : Hid (x.r.kind ≠ 1 ∧ x.r.kind ≠ 2) := hid ⟨hk1, hk2⟩
          clear hk1 hk2
          go_wp2_with fail
          go_roundw
          case rel =>
            refine ⟨k + 1, by omega, by go_num, hid ⟨U, V, HA.out.m1, HA.out.m2, HA.out.chg, hI.out.ne, fun t => ?_, fun t => ?_⟩⟩
            · rw [hI.out.cu, hup.out t, if_neg (fun h => HK.out.1 h.1)]; simp
            · rw [hI.out.cv, hun.out t, if_neg (fun h => HK.out.2 h.1)]; simp
          case measure => simp [toN]; omega
    · obtain rfl : k = l.length := by omega
      go_wp2_with fail
      go_ret
      exact ⟨rfl, hI.out.chg⟩
end Go.Proofs.Ytobmaipjbepphaa
