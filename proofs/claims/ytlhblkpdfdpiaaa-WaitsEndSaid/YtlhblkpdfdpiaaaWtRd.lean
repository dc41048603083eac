import Derived.Test.YtlhblkpdfdpiaaaWtWv
import Derived.WalkMore
namespace Go.Proofs.Ytlhblkpdfdpiaaa.Wt
open Go.RowKit Go.ChangeMaps Go.MapKept
set_option linter.unusedVariables false
set_option linter.unusedSimpArgs false
set_option linter.unnecessarySimpa false
set_option maxHeartbeats 8000000

/-- The least so far. -/
def BestI (e : Edges) (n : Int) (j : Nat) (best : Int) : Prop :=
  (best = -1 ∧ ∀ i, i < j → ∀ k, (suc e n)[i]? = some k → wave e n k = none) ∨
  (0 ≤ best ∧ (∃ i k, i < j ∧ (suc e n)[i]? = some k ∧ wave e n k = some best) ∧ ∀ i, i < j → ∀ k d, (suc e n)[i]? = some k → wave e n k = some d → best ≤ d)
theorem wave_some {e : Edges} {n k d : Int} (h : wave e n k = some d) : (k = n ∧ d = 0) ∨ (k ≠ n ∧ 0 < dst e k n ∧ d = (dst e k n : Int)) := by
  unfold wave at h
  split at h
  · rename_i hk; cases h; exact .inl ⟨hk, rfl⟩
  · rename_i hk
    split at h
    · cases h
    · cases h; exact .inr ⟨hk, by omega, rfl⟩
theorem wave_hit {e : Edges} {n : Int} {d : Nat} (h : dst e n n = d + 1) : ∃ k, k ∈ suc e n ∧ wave e n k = some (d : Int) := by
  rcases Nat.eq_zero_or_pos d with rfl | hd
  · exact ⟨n, suc_mem.2 (dst_one.1 h), by unfold wave; rw [if_pos rfl]; rfl⟩
  · obtain ⟨c, h1, h2⟩ := dst_step h hd
    refine ⟨c, suc_mem.2 h1, ?_⟩
    unfold wave
    rw [if_neg (fun e1 => by rw [e1] at h2; omega), if_neg (by omega), h2]
theorem best_end {e : Edges} {n best : Int} (h : BestI e n (suc e n).length best) : best = (dst e n n : Int) - 1 := by
  rcases h with ⟨rfl, h⟩ | ⟨h0, ⟨i, k, hi, hk, hw⟩, h⟩
  · rcases Nat.eq_zero_or_pos (dst e n n) with h1 | h1
    · omega
    · obtain ⟨k, h2, h3⟩ := wave_hit (e := e) (n := n) (d := dst e n n - 1) (by omega)
      obtain ⟨i, hi, rfl⟩ := List.getElem_of_mem h2
      have := h i hi _ (List.getElem?_eq_getElem hi)
      rw [this] at h3; cases h3
  · have hke : (n, k) ∈ e := suc_mem.1 (List.mem_of_getElem? hk)
    have hle : 0 < dst e n n ∧ (dst e n n : Int) ≤ best + 1 := by
      rcases wave_some hw with ⟨rfl, rfl⟩ | ⟨h1, h2, rfl⟩
      · have := dst_one.2 hke; omega
      · have := dst_edge hke h2; omega
    obtain ⟨k2, h2, h3⟩ := wave_hit (e := e) (n := n) (d := dst e n n - 1) (by omega)
    obtain ⟨i2, hi2, rfl⟩ := List.getElem_of_mem h2
    have := h i2 hi2 _ _ (List.getElem?_eq_getElem hi2) h3
    omega
theorem BestI.next {e : Edges} {n best : Int} {j : Nat} {k : Int} (h : BestI e n j best) (hk : (suc e n)[j]? = some k) :
    BestI e n (j + 1) (match wave e n k with | none => best | some d => if best < 0 ∨ d < best then d else best) := by
  have hlast : ∀ i, i < j + 1 → i < j ∨ i = j := fun i hi => by omega
  cases hw : wave e n k with
  | none =>
    rcases h with ⟨rfl, h⟩ | ⟨h0, ⟨i, k', hi, hk', hw'⟩, h⟩
    · refine .inl ⟨rfl, fun i hi k' hk' => ?_⟩
      rcases hlast i hi with h1 | rfl
      · exact h i h1 k' hk'
      · rw [hk] at hk'; cases hk'; exact hw
    · refine .inr ⟨h0, ⟨i, k', by omega, hk', hw'⟩, fun i hi k' d hk' hd => ?_⟩
      rcases hlast i hi with h1 | rfl
      · exact h i h1 k' d hk' hd
      · rw [hk] at hk'; cases hk'; rw [hw] at hd; cases hd
  | some d =>
    have hd0 : 0 ≤ d := by rcases wave_some hw with ⟨_, rfl⟩ | ⟨_, _, rfl⟩ <;> omega
    simp only
    rcases h with ⟨rfl, h⟩ | ⟨h0, ⟨i, k', hi, hk', hw'⟩, h⟩
    · rw [if_pos (.inl (by omega))]
      refine .inr ⟨hd0, ⟨j, k, by omega, hk, hw⟩, fun i hi k' d' hk' hd => ?_⟩
      rcases hlast i hi with h1 | rfl
      · rw [h i h1 k' hk'] at hd; cases hd
      · rw [hk] at hk'; cases hk'; rw [hw] at hd; cases hd; omega
    · by_cases hlt : d < best
      · rw [if_pos (.inr hlt)]
        refine .inr ⟨hd0, ⟨j, k, by omega, hk, hw⟩, fun i hi k' d' hk' hd => ?_⟩
        rcases hlast i hi with h1 | rfl
        · have := h i h1 k' d' hk' hd; omega
        · rw [hk] at hk'; cases hk'; rw [hw] at hd; cases hd; omega
      · rw [if_neg (by omega)]
        refine .inr ⟨h0, ⟨i, k', by omega, hk', hw'⟩, fun i hi k' d' hk' hd => ?_⟩
        rcases hlast i hi with h1 | rfl
        · exact h i h1 k' d' hk' hd
        · rw [hk] at hk'; cases hk'; rw [hw] at hd; cases hd; omega
/-- The first that is so far away, is the next one. -/
theorem nxt_first {e : Edges} {n at_ : Int} {left j : Nat} {k : Int} (hl : 0 < left) (hlt : left < dst e n n) (hj : (suc e at_)[j]? = some k) (hw : wave e n k = some (left : Int)) (hno : ∀ i, i < j → ∀ k', (suc e at_)[i]? = some k' → wave e n k' ≠ some (left : Int)) : nxt e n left at_ = k := by
  have h1 : (nm e).find? (fun k => e.contains (at_, k) && dst e k n == left) = (suc e at_).find? fun k => wave e n k == some (left : Int) := by
    refine find_srt (nm_srt e) (uset_srt _) fun z => ?_
    constructor
    · rintro ⟨h1, h2⟩
      simp at h2
      refine ⟨suc_mem.2 h2.1, ?_⟩
      simp only [beq_iff_eq]
      unfold wave
      rw [if_neg (fun e1 => by rw [e1] at h2; omega), if_neg (by omega), h2.2]
    · rintro ⟨h1, h2⟩
      simp only [beq_iff_eq] at h2
      refine ⟨nm_snd (suc_mem.1 h1), ?_⟩
      rcases wave_some h2 with ⟨_, h3⟩ | ⟨_, _, h3⟩
      · omega
      · simp only [Bool.and_eq_true, List.contains_iff_mem, beq_iff_eq]
        exact ⟨suc_mem.1 h1, by omega⟩
  have h2 : (suc e at_).find? (fun k => wave e n k == some (left : Int)) = some k := by
    rw [List.find?_eq_some_iff_getElem]
    obtain ⟨hjl, hje⟩ := List.getElem?_eq_some_iff.1 hj
    refine ⟨by simpa using hw, j, hjl, hje, fun i hi => ?_⟩
    have := hno i hi _ (List.getElem?_eq_getElem (by omega))
    simpa using this
  unfold nxt
  rw [h1, h2]; rfl
theorem wave_at {e : Edges} {n at_ : Int} {left : Nat} (h : dst e at_ n = left + 1) (hlt : left < dst e n n) : ∃ (j : Nat) (k : Int), (suc e at_)[j]? = some k ∧ wave e n k = some (left : Int) := by
  have hm : ∃ k, k ∈ suc e at_ ∧ wave e n k = some (left : Int) := by
    rcases Nat.eq_zero_or_pos left with rfl | hd
    · exact ⟨n, suc_mem.2 (dst_one.1 h), by unfold wave; rw [if_pos rfl]; rfl⟩
    · obtain ⟨c, h1, h2⟩ := dst_step h hd
      refine ⟨c, suc_mem.2 h1, ?_⟩
      unfold wave
      rw [if_neg (fun e1 => by rw [e1] at h2; omega), if_neg (by omega), h2]
  obtain ⟨k, h1, h2⟩ := hm
  obtain ⟨j, hj, rfl⟩ := List.getElem_of_mem h1
  exact ⟨j, _, List.getElem?_eq_getElem hj, h2⟩

/-- The shortest cycle from one on. -/
def rnd (e : Edges) (n : Int) : List Int := if dst e n n = 0 then [] else n :: cgo e n (dst e n n - 1) n

/-- A look-up in the graph. -/
theorem Gr.look {w : World} {r : Nat} {m : List (Int × Value)} {e : Edges} (h : Gr w r m e) (a : Int) : ∃ b c, Hid (((mget m a).map GV).getD (.slice none 0 0) = .slice b (suc e a).length c) ∧ (suc e a).length ≤ c ∧ (suc e a).length ≤ maxLen ∧ Hid (∀ i x, (suc e a)[i]? = some x → ∃ bb off, b = some ⟨bb, off, none⟩ ∧ ∀ j u, (encI x)[j]? = some u → w.cell? ⟨bb, off + i * 1 + j, none⟩ = some u) := by
  obtain ⟨b, c, e1, _, _, e2, s1, s2, s3⟩ := h.get a
  cases e2
  exact ⟨b, c, hid (by rw [← e1]; cases mget m a <;> rfl), s1, s2, hid s3⟩

set_option maxRecDepth 100000 in
theorem round_calls (w : World) (r : Nat) (m : List (Int × Value)) (e : Edges) (h : Gr w r m e) (hl : e.length ≤ 1000) (n : Int) (hn : n ∈ nm e) :
    Calls Try.prog 32 #[.map (some r), .int .i64 n] w fun ee w' => ∃ v, ee = .returned v ∧ Hid (w'.ownsRow w.heap.size 3 1 v (rnd e n).length ((rnd e n).map (Value.int .i64)) ∧ (rnd e n = [] → v = .slice none 0 0)) ∧ Hid (Chg NoB w w') := by
  have HH := hid h
  have HN := hid hn
  obtain ⟨sa, sc, HV, s1, s2, HS⟩ := h.look n
  have hsl := suc_len e n
  unfold maxLen at s2
  clear h hn
  go_enter Try.func32, Try.ntmps32
  go_wp2_with fail
  go_step3
  go_upto_region 3 with (go_at_call 48; refine (wave_calls w r m e HH.out hl n HN.out).mono ?_; rintro ee w1 ⟨rf, F, rfl, hW⟩)
  have HMF := hid hW.out.1
  have HWV := hid hW.out.2.1
  have HC1 := hid hW.out.2.2
  have HG1 := hid (HH.out.keep HC1.out)
  clear hW
  go_wp2_with (at_lookup; refine step_lookup HG1.out.map rfl _ _ 55 3 24 false rfl Try.underlying55 Try.underlying3 (zero_ints _) n rfl rfl ?_; simp only [Bool.false_eq_true, if_false]; rw [HV.out])
  have hd2 := (show dst e n n ≤ 2000 from by
    rcases Nat.eq_zero_or_pos (dst e n n) with h0 | h0
    · omega
    · have := (dst_pos h0).2; have := nm_len e; omega)
  go_loopw [6, 24] (fun s6 i wr => ∃ (j : Nat) (best : Int), j ≤ (suc e n).length ∧ i = .int .i64 j ∧ s6 = .int .i64 best ∧ -1 ≤ best ∧ best ≤ 2000 ∧ w1 = wr ∧ Hid (BestI e n j best)) (fun _ i _ => (suc e n).length - (intOf i).toNat)
  case atStart => exact ⟨0, -1, by omega, rfl, rfl, by omega, by omega, rfl, hid (.inl ⟨rfl, fun i hi => by omega⟩)⟩
  case round =>
    obtain ⟨j, best, hj, rfl, rfl, hb1, hb2, rfl, HB⟩ := hrel
    by_cases hlt : j < (suc e n).length
    · obtain ⟨kk, hkk⟩ := named (suc e n)[j]
      obtain ⟨b, off, hab, h2⟩ := Rd.cells HS.out HC1.out j hlt
      have h2 := h2 0 _ rfl
      rw [← hkk.out] at h2
      subst hab
      simp only [Nat.add_zero, Nat.mul_one] at h2
      have HB2 := hid (HB.out.next (k := kk) (by rw [List.getElem?_eq_getElem hlt, hkk.out]))
      cases hw : wave e n kk with
      | none =>
        have HM : Hid (mget F kk = none) := hid (by rw [HWV.out, hw])
        rw [hw] at HB2
        clear hw
        go_wp2_with (at_lookup; refine step_lookup HMF.out rfl _ _ 51 3 3 true rfl Try.underlying51 Try.underlying3 (zero_int _) kk rfl rfl ?_; rw [HM.out]; simp only [Option.map_none, Option.getD_none, Option.isSome_none, if_true])
        go_roundw
        case rel => exact ⟨j + 1, best, by omega, by go_num, rfl, hb1, hb2, by trivial, HB2⟩
        case measure => simp [intOf]; omega
      | some d =>
        have HM : Hid (mget F kk = some d) := hid (by rw [HWV.out, hw])
        rw [hw] at HB2
        have hd : 0 ≤ d ∧ d ≤ 2000 := by
          rcases wave_some hw with ⟨_, rfl⟩ | ⟨_, h1, rfl⟩
          · omega
          · have := (dst_pos h1).2; have := nm_len e; omega
        obtain ⟨d0, d1⟩ := hd
        clear hw
        have hcs : (best < 0) ∨ (¬ best < 0 ∧ d < best) ∨ (¬ best < 0 ∧ ¬ d < best) := by omega
        rcases hcs with h0 | ⟨h0, h1⟩ | ⟨h0, h1⟩
        · have HB3 : Hid (BestI e n (j + 1) d) := hid (by have h9 := HB2.out; simp only [if_pos (Or.inl h0 : best < 0 ∨ d < best)] at h9; exact h9)
          clear HB2
          go_wp2_with (at_lookup; refine step_lookup HMF.out rfl _ _ 51 3 3 true rfl Try.underlying51 Try.underlying3 (zero_int _) kk rfl rfl ?_; rw [HM.out]; simp only [Option.map_some, Option.getD_some, Option.isSome_some, if_true])
          go_roundw
          case rel => exact ⟨j + 1, d, by omega, by go_num, rfl, by omega, d1, by trivial, HB3⟩
          case measure => simp [intOf]; omega
        · have HB3 : Hid (BestI e n (j + 1) d) := hid (by have h9 := HB2.out; simp only [if_pos (Or.inr h1 : best < 0 ∨ d < best)] at h9; exact h9)
          clear HB2
          go_wp2_with (at_lookup; refine step_lookup HMF.out rfl _ _ 51 3 3 true rfl Try.underlying51 Try.underlying3 (zero_int _) kk rfl rfl ?_; rw [HM.out]; simp only [Option.map_some, Option.getD_some, Option.isSome_some, if_true])
          go_roundw
          case rel => exact ⟨j + 1, d, by omega, by go_num, rfl, by omega, d1, by trivial, HB3⟩
          case measure => simp [intOf]; omega
        · have HB3 : Hid (BestI e n (j + 1) best) := hid (by have h9 := HB2.out; simp only [if_neg (by omega : ¬ (best < 0 ∨ d < best))] at h9; exact h9)
          clear HB2
          go_wp2_with (at_lookup; refine step_lookup HMF.out rfl _ _ 51 3 3 true rfl Try.underlying51 Try.underlying3 (zero_int _) kk rfl rfl ?_; rw [HM.out]; simp only [Option.map_some, Option.getD_some, Option.isSome_some, if_true])
          go_roundw
          case rel => exact ⟨j + 1, best, by omega, by go_num, rfl, hb1, hb2, by trivial, HB3⟩
          case measure => simp [intOf]; omega
    · obtain rfl : (suc e n).length = j := by omega
      have hbe := best_end HB.out
      clear HB
      by_cases hd0 : dst e n n = 0
      · have hbl : best < 0 := by omega
        have hr0 : rnd e n = [] := by unfold rnd; rw [if_pos hd0]
        have HR0 := hid hr0
        clear hbe hd0 hd2 hr0
        go_wp2_with fail
        (try rw [Exit.noGoto_ret])
        go_ret
        exact ⟨_, rfl, hid ⟨by rw [HR0.out]; exact World.ownsRow_nil _ _ _ _, fun _ => rfl⟩, HC1⟩
      · obtain ⟨d, hd⟩ : ∃ d, dst e n n = d + 1 := ⟨dst e n n - 1, by omega⟩
        have hbd : best = (d : Int) := by omega
        subst hbd
        have hr0 : rnd e n = n :: cgo e n d n := by unfold rnd; rw [if_neg hd0, hd]; rfl
        have HR0 := hid hr0
        have HD := hid hd
        have hbl : ¬ (d : Int) < 0 := by omega
        clear hbe hd0 hd2 hr0 hd
        go_wp2_with fail
        go_step3
        go_wp2_with fail
        have hI0 : Hid (∃ (left : Nat) (at_ : Int) (out : List Int), left ≤ d ∧ Value.int .i64 (d : Int) = .int .i64 (left : Int) ∧ Value.int .i64 n = .int .i64 at_ ∧ (w1.alloc (.cells #[.int .i64 n] 3)).ownsRow w.heap.size 3 1 (.slice (some ⟨w1.heap.size, 0, none⟩) 1 1) out.length (out.map (Value.int .i64)) ∧ out ++ cgo e n left at_ = n :: cgo e n d n ∧ dst e at_ n = left + 1 ∧ Chg NoB w (w1.alloc (.cells #[.int .i64 n] 3))) :=
          hid ⟨d, n, [n], Nat.le_refl _, rfl, rfl, ⟨by simp, .inr ⟨w1.heap.size, 1, _, rfl, HC1.out.size, blk_new _ _, by simp, by simp [maxLen], by simp, by simp⟩⟩, rfl, HD.out, HC1.out.alloc _⟩
        have HRL : Hid (∀ b, OwnB (.slice (some ⟨w1.heap.size, 0, none⟩) 1 1) b → b ≠ rf) := hid (fun b hb e => by
          have h9 : w1.heap.size = b := by simpa [OwnB, Value.ownBlock] using hb
          have := HMF.out.lt; omega)
        clear HC1 HG1 HV HS s1 s2
        go_loopg [6, 11, 12] d (fun k s6 s11 s12 wr => ∃ (left : Nat) (at_ : Int), left ≤ k ∧ s6 = .int .i64 (left : Int) ∧ s12 = .int .i64 at_ ∧ Hid (∃ out, left ≤ d ∧ wr.ownsRow w.heap.size 3 1 s11 out.length (out.map (Value.int .i64)) ∧ out ++ cgo e n left at_ = n :: cgo e n d n ∧ dst e at_ n = left + 1 ∧ Chg NoB w wr ∧ MapI wr rf (Value.int .i64) F ∧ ∀ b, OwnB s11 b → b ≠ rf))
        case atStart =>
          obtain ⟨left, at_, out, h1, h2, h3, h4, h5, h6, h7⟩ := hI0.out
          exact ⟨left, at_, h1, h2, h3, hid ⟨out, h1, h4, h5, h6, h7, HMF.out.chg ((Chg.refl NoB w1).alloc _) nob, HRL.out⟩⟩
        case round =>
          clear hI0 HMF HRL
          obtain ⟨left, at_, hk, rfl, rfl, hI⟩ := hrel
          obtain ⟨out, hld, hO, hT, hA, hC, hM, hOR⟩ := hI.out
          have HOR := hid hOR
          have HO := hid hO
          have HT := hid hT
          have HA := hid hA
          have HC := hid hC
          have HM := hid hM
          obtain ⟨oa, oc, ho⟩ := ownsForm hO
          subst ho
          obtain ⟨sa, sc, HV, s1, s2, HS⟩ := (HH.out.keep hC).look at_
          have hsl2 := suc_len e at_
          unfold maxLen at s2
          have hdl : d ≤ 2000 := by omega
          have hll : left < dst e n n := by rw [HD.out]; omega
          have HLL := hid hll
          have hol : out.length ≤ 2001 := by
            have := congrArg List.length hT
            rw [List.length_append, List.length_cons, cgo_len, cgo_len] at this; omega
          have HOL := hid hol
          have hl0 : (0 : Int) ≤ (left : Int) := by omega
          have hl1 : (left : Int) ≤ 2000 := by omega
          clear hI hO hT hA hC hM hll hOR
          go_wp2_with (at_lookup; refine step_lookup (HH.out.map.chg HC.out nob) rfl _ _ 55 3 24 false rfl Try.underlying55 Try.underlying3 (zero_ints _) at_ rfl rfl ?_; simp only [Bool.false_eq_true, if_false]; rw [HV.out])
          go_loopw [6, 11, 12, 55] (fun s6 s11 s12 i wr' => ∃ j : Nat, j ≤ (suc e at_).length ∧ i = .int .i64 j ∧ s6 = .int .i64 (left : Int) ∧ s11 = .slice oa out.length oc ∧ s12 = .int .i64 at_ ∧ wr = wr' ∧ Hid (∀ i, i < j → ∀ k', (suc e at_)[i]? = some k' → wave e n k' ≠ some (left : Int))) (fun _ _ _ i _ => (suc e at_).length - (intOf i).toNat)
          case atStart => exact ⟨0, by omega, rfl, rfl, rfl, rfl, rfl, hid (fun i hi => by omega)⟩
          case round =>
            obtain ⟨j, hj, rfl, rfl, rfl, rfl, rfl, HB⟩ := hrel
            by_cases hlt : j < (suc e at_).length
            · obtain ⟨kk, hkk⟩ := named (suc e at_)[j]
              obtain ⟨b, off, hab, h2⟩ := HS.out j _ (List.getElem?_eq_getElem hlt)
              have h2 := h2 0 _ rfl
              rw [← hkk.out] at h2
              subst hab
              simp only [Nat.add_zero, Nat.mul_one] at h2
              have HKJ : Hid ((suc e at_)[j]? = some kk) := hid (by rw [List.getElem?_eq_getElem hlt, hkk.out])
              have hnext : wave e n kk ≠ some (left : Int) → Hid (∀ i, i < j + 1 → ∀ k', (suc e at_)[i]? = some k' → wave e n k' ≠ some (left : Int)) := fun hx => hid (fun i hi k' hk' => by
                rcases Nat.lt_or_ge i j with h3 | h3
                · exact HB.out i h3 k' hk'
                · obtain rfl : i = j := by omega
                  rw [HKJ.out] at hk'; cases hk'; exact hx)
              have HNX := hid hnext
              clear hnext
              cases hw : wave e n kk with
              | none =>
                have HMG : Hid (mget F kk = none) := hid (by rw [HWV.out, hw])
                have HB2 := HNX.out (by rw [hw]; simp)
                clear hw HNX
                go_wp2_with (at_lookup; refine step_lookup HM.out rfl _ _ 51 3 3 true rfl Try.underlying51 Try.underlying3 (zero_int _) kk rfl rfl ?_; rw [HMG.out]; simp only [Option.map_none, Option.getD_none, Option.isSome_none, if_true])
                go_roundw
                case rel => exact ⟨j + 1, by omega, by go_num, rfl, rfl, rfl, by trivial, HB2⟩
                case measure => simp [intOf]; omega
              | some dd =>
                have HMG : Hid (mget F kk = some dd) := hid (by rw [HWV.out, hw])
                by_cases hdl2 : dd = (left : Int)
                · subst hdl2
                  have HW := hid hw
                  have hee : ((left : Int) == (left : Int)) = true := by simp
                  rcases Nat.eq_zero_or_pos left with h0 | h0
                  · have hz : ((left : Int) == 0) = true := by simp [h0]
                    have HFN : Hid (out = n :: cgo e n d n) := hid (by have := HT.out; rw [h0] at this; simpa [cgo] using this)
                    clear hw HNX h0
                    go_wp2_with (at_lookup; refine step_lookup HM.out rfl _ _ 51 3 3 true rfl Try.underlying51 Try.underlying3 (zero_int _) kk rfl rfl ?_; rw [HMG.out]; simp only [Option.map_some, Option.getD_some, Option.isSome_some, if_true])
                    (try rw [Exit.noGoto_ret])
                    go_ret
                    exact ⟨_, rfl, hid ⟨by rw [HR0.out, ← HFN.out]; exact HO.out, fun h => by rw [HR0.out] at h; cases h⟩, HC⟩
                  · obtain ⟨l0, rfl⟩ : ∃ l0, left = l0 + 1 := ⟨left - 1, by omega⟩
                    have HNE : Hid (nxt e n (l0 + 1) at_ = kk) := hid (nxt_first (by omega) HLL.out HKJ.out hw HB.out)
                    have HNO := hid (nxt_ok (e := e) (i := n) (at_ := at_) (left := l0 + 1) (by omega) HA.out)
                    have hz : (((l0 + 1 : Nat) : Int) == 0) = false := by simp; omega
                    have hsb : IntKind.i64.wrap (((l0 + 1 : Nat) : Int) - 1) = (l0 : Int) := by rw [IntKind.wrap_i64]; omega
                    clear hw HNX h0
                    go_wp2_with (first
                      | (at_lookup; refine step_lookup HM.out rfl _ _ 51 3 3 true rfl Try.underlying51 Try.underlying3 (zero_int _) kk rfl rfl ?_; rw [HMG.out]; simp only [Option.map_some, Option.getD_some, Option.isSome_some, if_true])
                      | (at_builtin; refine step_app1 slInt rfl _ _ rfl (World.ownsRow.alloc HO.out _) rfl wr.heap.size [.int .i64 kk] rfl (blk_new _ _) rfl rfl (by simp [Value.oneCell']) (by have := HOL.out; omega) (by have := HOL.out; unfold maxLen; omega) (by have := HC.out.size; simp; omega) ?_; intro v5 w5 hv5 hc5 hn5 hnil))
                    have HV5 := hid hv5
                    have HC5 : Hid (Chg (OwnB (.slice oa out.length oc)) wr w5) := hid (((Chg.refl (OwnB (.slice oa out.length oc)) wr).alloc _).trans' hc5)
                    have HN5 : Hid (∀ i, OwnB v5 i → OwnB (.slice oa out.length oc) i ∨ wr.heap.size ≤ i) := hid (fun i hi => (hn5 i hi).elim .inl (fun h => by simp at h; right; omega))
                    go_roundg l0
                    case measure => omega
                    case rel =>
                      refine ⟨l0, kk, Nat.le_refl _, by first | rfl | go_num, rfl, hid ⟨out ++ [kk], by omega, by simpa using HV5.out, ?_, ?_, HC.out.new HC5.out (fun i hi => (OwnB.ge HO.out i hi).1), HM.out.chg HC5.out (fun h => HOR.out _ h rfl), fun b hb => (HN5.out b hb).elim (fun h => HOR.out b h) (fun h => by have := HM.out.lt; omega)⟩⟩
                      · have := HT.out
                        rw [cgo, HNE.out] at this
                        simpa using this
                      · rw [← HNE.out]; exact HNO.out.2
                · have hne : (dd == (left : Int)) = false := by simpa using hdl2
                  have HB2 := HNX.out (by rw [hw]; simpa using hdl2)
                  clear hw HNX hdl2
                  go_wp2_with (at_lookup; refine step_lookup HM.out rfl _ _ 51 3 3 true rfl Try.underlying51 Try.underlying3 (zero_int _) kk rfl rfl ?_; rw [HMG.out]; simp only [Option.map_some, Option.getD_some, Option.isSome_some, if_true])
                  go_roundw
                  case rel => exact ⟨j + 1, by omega, by go_num, rfl, rfl, rfl, by trivial, HB2⟩
                  case measure => simp [intOf]; omega
            · exfalso
              obtain ⟨i, k', hk', hw'⟩ := wave_at HA.out HLL.out
              exact HB.out i (by have := (List.getElem?_eq_some_iff.1 hk').1; omega) k' hk' hw'
end Go.Proofs.Ytlhblkpdfdpiaaa.Wt
