import Derived.Test.YtlhblkpdfdpiaaaWtGo
import Derived.Test.YtlhblkpdfdpiaaaWtFar
import Derived.Test.YtlhblkpdfdpiaaaKeysWg
namespace Go.Proofs.Ytlhblkpdfdpiaaa.Wt
open Go.RowKit Go.ChangeMaps Go.MapKept
set_option linter.unusedVariables false
set_option linter.unusedSimpArgs false
set_option linter.unnecessarySimpa false
set_option maxHeartbeats 8000000

/-- A graph that is read alone. -/
structure Gr (w : World) (r : Nat) (m : List (Int × Value)) (e : Edges) : Prop where
  map : MapI w r GV m
  keys : KeysOf m e
  rd : ∀ p ∈ m, Rd w 1 encI p.2 (suc e p.1)
theorem GAt.gr {w0 w : World} {r : Nat} {m : List (Int × Value)} {e : Edges} (h : GAt w0 w r m (fun _ => true) e) (hk : KeysOf m e) : Gr w r m e :=
  ⟨h.map, hk, fun p hp => Rd.ints_of ((h.row p hp).2 rfl)⟩
theorem Gr.keep {w w' : World} {r : Nat} {m : List (Int × Value)} {e : Edges} (h : Gr w r m e) (hc : Chg NoB w w') : Gr w' r m e :=
  ⟨h.map.chg hc nob, h.keys, fun p hp => (h.rd p hp).keep hc (fun _ _ _ => nob)⟩
theorem Gr.get {w : World} {r : Nat} {m : List (Int × Value)} {e : Edges} (h : Gr w r m e) (a : Int) : ∃ b c, (mget m a).getD (.slice none 0 0) = .slice b (suc e a).length c ∧ Rd w 1 encI (.slice b (suc e a).length c) (suc e a) := by
  rcases mget_cases m a with ⟨h1, h2⟩ | ⟨u, h1, h2⟩
  · have hs : suc e a = [] := by
      cases hs : suc e a with
      | nil => rfl
      | cons b l =>
        have : b ∈ suc e a := by rw [hs]; simp
        exact absurd ((h.keys a).2 (nm_fst (suc_mem.1 this))) h2
    rw [h1, hs]
    exact ⟨none, 0, rfl, none, 0, rfl, by simp, by simp, fun i x hi => by simp at hi⟩
  · have h6 : Rd w 1 encI u (suc e a) := h.rd _ h2
    obtain ⟨b, c, e1, h3, h4, h5⟩ := h6
    subst e1
    rw [h1]
    exact ⟨b, c, rfl, b, c, rfl, h3, h4, h5⟩
theorem nm_len (e : Edges) : (nm e).length ≤ 2 * e.length := by
  have h1 := len_of_sub (srt_nodup (nm_srt e)) (m := e.flatMap fun p => [p.1, p.2]) (fun z hz => by unfold nm at hz; exact uset_mem.1 hz)
  have h2 : (e.flatMap fun p => [p.1, p.2]).length = 2 * e.length := by
    clear h1
    induction e with
    | nil => rfl
    | cons x e ih => rw [List.flatMap_cons, List.length_append, ih]; simp; omega
  omega
theorem suc_len (e : Edges) (n : Int) : (suc e n).length ≤ e.length := by
  have h1 := len_of_sub (srt_nodup (uset_srt (raw e n))) (m := raw e n) (fun z hz => uset_mem.1 hz)
  have := raw_len e n
  unfold suc
  omega
theorem Gr.len {w : World} {r : Nat} {m : List (Int × Value)} {e : Edges} (h : Gr w r m e) : m.length ≤ 2 * e.length := by
  have h1 := len_of_sub h.map.nodup (m := nm e) (fun z hz => (h.keys z).1 hz)
  have := nm_len e
  simp at h1
  omega

/-! the names -/
theorem sorted_nm {m : List (Int × Value)} {e : Edges} (hn : (m.map (·.1)).Nodup) (h : KeysOf m e) : sortI (m.map (·.1)) = nm e := by
  have hs : (sortI (m.map (·.1))).Pairwise (fun a b => a ≤ b) := by
    unfold sortI
    exact (List.pairwise_mergeSort (le := fun x y : Int => decide (x ≤ y)) (fun a b c h1 h2 => by simp at *; omega) (fun a b => by simp; omega) _).imp fun h => by simpa using h
  have hp : (sortI (m.map (·.1))).Perm (m.map (·.1)) := List.mergeSort_perm _ _
  have hn2 := hp.nodup_iff.2 hn
  have hlt : (sortI (m.map (·.1))).Pairwise (· < ·) := by
    rw [List.pairwise_iff_getElem] at hs ⊢
    intro i j hi hj hij
    have h1 := hs i j hi hj hij
    have h2 : (sortI (m.map (·.1)))[i] ≠ (sortI (m.map (·.1)))[j] := fun e1 => by
      have := (List.getElem_inj hn2).1 e1; omega
    omega
  exact srt_ext hlt (nm_srt e) fun z => by rw [hp.mem_iff]; exact h z

def EdW (e : Edges) : Prop := ∀ z ∈ nm e, (Lit.int .i64 z).wf = true
theorem names_calls (w : World) (r : Nat) (m : List (Int × Value)) (e : Edges) (h : Gr w r m e) (hl : e.length ≤ 1000) (hw : EdW e) :
    Calls Try.prog 23 #[.map (some r)] w fun ee w' => ∃ a c, ee = .returned (.slice a (nm e).length c) ∧ Hid (w'.ownsRow w.heap.size 3 1 (.slice a (nm e).length c) (nm e).length ((nm e).map (Value.int .i64))) ∧ Hid (Chg NoB w w') := by
  have hlen := h.len
  have hN := sorted_nm h.map.nodup h.keys
  have HN := hid hN
  have HH := hid h
  have hwf : Hid (∀ x ∈ m, (Lit.int .i64 x.1).wf = true) := hid (fun x hx => hw _ ((h.keys _).1 (List.mem_map.2 ⟨x, hx, rfl⟩)))
  clear hN h
  go_enter Try.func23, Try.ntmps23
  go_wp2_with (first
    | (go_at_call 46; refine (keys_callsWg (some r) _).mono ?_; rintro e w1 ⟨rfl, rfl⟩)
    | (go_at_call 45; refine (sorted_callsWg (V := GV) r w.heap.size m _ (blk_new _ _) (HH.out.map.chg ((Chg.refl NoB w).alloc _) nob) hwf.out (by omega)).mono ?_; rintro e w2 ⟨v, rfl, ho, hc⟩))
  go_ret
  rw [HN.out] at ho
  have ho2 := ownsRow.chg (ho) (Chg.refl NoB w2) (fun _ _ => nob)
  obtain ⟨a, c, rfl⟩ := ownsForm ho
  refine ⟨a, c, rfl, hid ?_, hid (((Chg.refl NoB w).alloc _).trans' hc)⟩
  obtain ⟨h1, h2⟩ := ho
  refine ⟨h1, h2.imp id ?_⟩
  rintro ⟨g, cap, cur, e1, h3, h4⟩
  exact ⟨g, cap, cur, e1, by simp at h3; omega, h4⟩

/-! how far each is away -/
def Rlx (F : List (Int × Int)) (n k : Int) : Prop := ∀ d, mget F k = some d → ∃ was, mget F n = some was ∧ was ≤ d + 1
def WvI (e : Edges) (F1 F : List (Int × Int)) (g : Bool) (P : Prop) : Prop := (g = false → F = F1 ∧ P) ∧ (g = true → wvM e F < wvM e F1)
theorem step_insert {P : Program} {ops : Array Oper} {rest : List Oper} {o : Oper} {a : Act} {w : World} {Q : Exit → Act → World → Prop} {ν : Type} {V : ν → Value} {r : Nat} {m : List (Int × ν)} (hm : MapI w r V m) (hg : o.guard = none) (x y z : Operand) (t kt et : TypeId) (hop : o.op = Op.insert t x y z)
    (ht : P.underlying t = some (.map kt et)) (hk : P.underlying kt = some (.int .i64)) (k : Int) (v : ν)
    (hx : a.eval x = .map (some r)) (hy : a.eval y = .int .i64 k) (hz : a.eval z = V v)
    (hK : ∀ w', MapI w' r V (mput m k v) → Chg (OneB r) w w' → w'.heap.size = w.heap.size → wpList P ops Q rest (a.put o.dst undef) w') : wpList P ops Q (o :: rest) a w := by
  obtain ⟨w', hrun, h1, h2, h3⟩ := hm.update ht hk k v
  refine step_skip (w' := w') (wanted_none hg) ?_ (hK w' h1 h2 h3)
  simp [execOp, hop, hx, hy, hz, hrun, Result.andThen]

set_option maxRecDepth 100000 in
theorem wave_calls (w : World) (r : Nat) (m : List (Int × Value)) (e : Edges) (h : Gr w r m e) (hl : e.length ≤ 1000) (tw : Int) (ht : tw ∈ nm e) :
    Calls Try.prog 48 #[.map (some r), .int .i64 tw] w fun ee w' => ∃ rf F, ee = .returned (.map (some rf)) ∧ Hid (MapI w' rf (Value.int .i64) F ∧ (∀ n, mget F n = wave e tw n) ∧ Chg NoB w w') := by
  have HH := hid h
  have HT := hid ht
  have hmm := @run_makeMap Try.prog
  clear h ht
  go_enter Try.func48, Try.ntmps48
  go_wp2_with ((fail_if_success (fail_if_success (with_reducible change wpList _ _ _ (Oper.mk _ (.insert _ _ _ _) _ _ _ _ :: _) _ _))); refine step_insert (V := Value.int .i64) (MapI.made _ _) rfl _ _ _ 51 3 3 rfl Try.underlying51 Try.underlying3 tw 0 rfl rfl rfl ?_; intro w1 hm1 hc1 hs1)
  obtain ⟨rf, hrf⟩ := named w.heap.size
  have hW0 : Hid (∃ F, MapI w1 rf (Value.int .i64) F ∧ WvAt e tw F ∧ Chg NoB w w1) := hid ⟨_, by rw [hrf.out]; exact hm1, ⟨by simp [mput], by simp [mput], fun n d hd => by
    have : n = tw ∧ d = 0 := by simpa [mput] using hd
    obtain ⟨rfl, rfl⟩ := this
    exact ⟨by omega, by simp [mput], by simp [wl]⟩, fun p hp => by
    have : p = (tw, 0) := by simpa [mput] using hp
    subst this
    exact HT.out⟩, ((Chg.refl NoB w).alloc _).new hc1 (fun i hi => by have h' : i = w.heap.size := hi; omega)⟩
  have HRF : Hid (w.heap.size ≤ rf) := hid (by rw [hrf.out]; exact Nat.le_refl _)
  have hrr : r ≠ rf := by have := HH.out.map.lt; rw [hrf.out]; omega
  rw [← hrf.out]
  have hN2 := nm_len e
  clear hm1 hc1 hs1 hmm
  obtain ⟨F0, hF0⟩ := hW0.out
  go_loopg [] (wvM e F0) (fun k wr => Hid (∃ F, wvM e F ≤ k ∧ MapI wr rf (Value.int .i64) F ∧ WvAt e tw F ∧ Chg NoB w wr))
  case atStart => exact ⟨F0, Nat.le_refl _, hF0⟩
  case round =>
    clear hW0 hF0
    obtain ⟨F1, hk1, hM, hW, hC⟩ := hrel.out
    have HM1 := hid hM
    have HW1 := hid hW
    have HC1 := hid hC
    have HK1 := hid hk1
    clear hrel hM hW hC hk1
    go_wp2_with (at_range; refine step_range (HH.out.map.chg HC1.out nob) rfl _ 55 3 24 rfl Try.underlying55 rfl ?_; intro w2 hr2 hg2 hs2)
    go_frame
    obtain ⟨it, hit⟩ := named wr.heap.size
    rw [← hit.out] at hr2 ⊢
    have HIT : Hid (w.heap.size ≤ it ∧ it ≠ rf) := hid ⟨by rw [hit.out]; exact HC1.out.size, by have := HM1.out.lt; rw [hit.out]; omega⟩
    have hI0 : Hid (∃ todo F g, todo.length ≤ m.length ∧ (Value.bool false) = .bool g ∧ RangeI w2 it r GV m todo ∧ MapI w2 rf (Value.int .i64) F ∧ WvAt e tw F ∧ Chg NoB w w2 ∧ WvI e F1 F g (∀ n ∈ nm e, n ∉ todo.map (·.1) → ∀ k ∈ suc e n, Rlx F n k)) :=
      hid ⟨m, F1, false, Nat.le_refl _, rfl, hr2, HM1.out.chg hg2 nob, HW1.out, HC1.out.trans' hg2, fun _ => ⟨rfl, fun n hn hno => absurd ((HH.out.keys n).2 hn) hno⟩, fun h => by cases h⟩
    clear hr2 hg2 hs2
    go_loopg [6] m.length (fun k s6 wr => ∃ g, s6 = .bool g ∧ Hid (∃ todo F, todo.length ≤ k ∧ RangeI wr it r GV m todo ∧ MapI wr rf (Value.int .i64) F ∧ WvAt e tw F ∧ Chg NoB w wr ∧ WvI e F1 F g (∀ n ∈ nm e, n ∉ todo.map (·.1) → ∀ k ∈ suc e n, Rlx F n k)))
    case atStart =>
      obtain ⟨todo, F, g, h1, h2, h3⟩ := hI0.out
      cases h2
      exact ⟨false, rfl, todo, F, h1, h3⟩
    case round =>
      clear hI0
      obtain ⟨g, rfl, hI⟩ := hrel
      obtain ⟨todo, F, hk, hr, hM, hW, hC, hV⟩ := hI.out
      have HMo := hid hM
      have HWo := hid hW
      have HCo := hid hC
      have HVo := hid hV
      clear hI hM hW hC hV
      go_wp2_with (at_next; refine step_next hr rfl _ rfl rfl ?_ ?_)
      · intro h0
        subst h0
        cases g
        case false =>
          obtain ⟨hF, hP⟩ := HVo.out.1 rfl
          have HP := hid hP
          clear hF hP hr hk
          go_wp2
          go_ret
          exact ⟨rf, F, rfl, hid ⟨HMo.out, fun n => HWo.out.get (fun a b hab d hd => HP.out a (nm_fst hab) (by simp) b (suc_mem.2 hab) d hd) n, HCo.out⟩⟩
        case true =>
          have hlt := HVo.out.2 rfl
          have HLT := hid (Nat.lt_of_lt_of_le hlt HK1.out)
          clear hlt hr hk
          go_wp2
          go_roundg (wvM e F)
          case measure => exact HLT.out
          case rel => exact hid ⟨F, Nat.le_refl _, HMo.out, HWo.out, HCo.out⟩
      · intro x v todo' w2 hmem hp hsub hr2 hg2 hs2 hen
        have hl2 : todo'.length < gk := by have := hp.length_eq; simp at this; omega
        have HG2 : Hid (Chg NoB w w2) := hid (HCo.out.new hg2 (fun k hk => by have h' : k = it := hk; rw [h']; exact HIT.out.1))
        have hne1 : rf ≠ it := fun e => HIT.out.2 e.symm
        have HM2 : Hid (MapI w2 rf (Value.int .i64) F) := hid (HMo.out.chg hg2 (fun e => hne1 e))
        have hrd : Rd w 1 encI v (suc e x) := HH.out.rd _ hmem
        obtain ⟨ab, cb, hvv, b1, b2, b3⟩ := hrd
        subst hvv
        have HB3 := hid b3
        have HP := hid hp
        have HR2 := hid hr2
        have HXN : Hid (x ∈ nm e) := hid ((HH.out.keys x).1 (List.mem_map.2 ⟨_, hmem, rfl⟩))
        have hsl := suc_len e x
        clear b3 hp hr2 hmem hr hsub hg2 hs2
        go_wp2_with fail
        go_loopw [6, 27] (fun s6 i wr => ∃ (j : Nat) (g : Bool), j ≤ (suc e x).length ∧ i = .int .i64 j ∧ s6 = .bool g ∧ Hid (∃ F, RangeI wr it r GV m todo' ∧ MapI wr rf (Value.int .i64) F ∧ WvAt e tw F ∧ Chg NoB w wr ∧ WvI e F1 F g ((∀ n ∈ nm e, n ∉ todo.map (·.1) → ∀ k ∈ suc e n, Rlx F n k) ∧ ∀ i, i < j → ∀ k, (suc e x)[i]? = some k → Rlx F x k))) (fun _ i _ => (suc e x).length - (intOf i).toNat)
        case atStart => exact ⟨0, g, by omega, rfl, rfl, hid ⟨F, HR2.out, HM2.out, HWo.out, HG2.out, fun hg => ⟨(HVo.out.1 hg).1, (HVo.out.1 hg).2, fun i hi => by omega⟩, HVo.out.2⟩⟩
        case round =>
          clear HR2 HM2 HWo HG2 HVo HMo HCo
          obtain ⟨j, g, hj, rfl, rfl, hI⟩ := hrel
          obtain ⟨F, hr, hM, hW, hC, hV⟩ := hI.out
          have HR := hid hr
          have HM := hid hM
          have HW := hid hW
          have HC := hid hC
          have HV := hid hV
          clear hI hr hM hW hC hV
          by_cases hlt : j < (suc e x).length
          · obtain ⟨kk, hkk⟩ := named (suc e x)[j]
            have HKE : Hid ((x, kk) ∈ e) := hid (by rw [hkk.out]; exact suc_mem.1 (List.getElem_mem hlt))
            obtain ⟨b, off, hab, h2⟩ := Rd.cells HB3.out HC.out j hlt
            have h2 := h2 0 _ rfl
            rw [← hkk.out] at h2
            subst hab
            simp only [Nat.add_zero, Nat.mul_one] at h2
            have HKJ : Hid ((suc e x)[j]? = some kk) := hid (by rw [List.getElem?_eq_getElem hlt, hkk.out])
            have hstay : Rlx F x kk → Hid (∃ F, RangeI wr it r GV m todo' ∧ MapI wr rf (Value.int .i64) F ∧ WvAt e tw F ∧ Chg NoB w wr ∧ WvI e F1 F g ((∀ n ∈ nm e, n ∉ todo.map (·.1) → ∀ k ∈ suc e n, Rlx F n k) ∧ ∀ i, i < j + 1 → ∀ k, (suc e x)[i]? = some k → Rlx F x k)) := fun hx =>
              hid ⟨F, HR.out, HM.out, HW.out, HC.out, fun hg => ⟨(HV.out.1 hg).1, (HV.out.1 hg).2.1, fun i hi k hk => by
                rcases Nat.lt_or_ge i j with h3 | h3
                · exact (HV.out.1 hg).2.2 i h3 k hk
                · obtain rfl : i = j := by omega
                  rw [HKJ.out] at hk
                  cases hk
                  exact hx⟩, HV.out.2⟩
            have HST := hid hstay
            have hfl : F.length ≤ 2000 := by have := HW.out.len; omega
            have hwl : wvM e F ≤ wvM e F1 := by
              cases g
              · rw [(HV.out.1 rfl).1]; exact Nat.le_refl _
              · exact Nat.le_of_lt (HV.out.2 rfl)
            have HWL := hid hwl
            have HST2 : ∀ d, mget F kk = some d → (∀ was, mget F x = some was → d + 1 < was) → ∀ w', MapI w' rf (Value.int .i64) (mput F x (d + 1)) → Chg (OneB rf) wr w' → Hid (∃ F, RangeI w' it r GV m todo' ∧ MapI w' rf (Value.int .i64) F ∧ WvAt e tw F ∧ Chg NoB w w' ∧ WvI e F1 F true ((∀ n ∈ nm e, n ∉ todo.map (·.1) → ∀ k ∈ suc e n, Rlx F n k) ∧ ∀ i, i < j + 1 → ∀ k, (suc e x)[i]? = some k → Rlx F x k)) := fun d hd hw w' hm' hc' => by
              obtain ⟨p1, p2, p3⟩ := HW.out.put HKE.out hd hw
              exact hid ⟨_, HR.out.chg hc' (fun e => hrr e) (fun e => hne1 (Eq.symm e)), hm', p1, HC.out.new hc' (fun i hi => by have h' : i = rf := hi; rw [h']; exact HRF.out), fun h => (by cases h), fun _ => Nat.lt_of_lt_of_le p2 HWL.out⟩
            have HST2 := hid HST2
            clear hstay hwl
            cases hd : mget F kk with
            | none =>
              have HD := hid hd
              have hrx := hid (HST.out (fun d h => by rw [HD.out] at h; cases h))
              clear hd HST HST2
              rcases hmx : mget F x with _ | was
              all_goals
                have HX := hid hmx
                clear hmx
                go_wp2_with (first
                  | (at_lookup; refine step_lookup HM.out rfl _ _ 51 3 3 true rfl Try.underlying51 Try.underlying3 (zero_int _) kk rfl rfl ?_; rw [HD.out]; simp only [Option.map_none, Option.getD_none, Option.isSome_none, if_true])
                  | (at_lookup; refine step_lookup HM.out rfl _ _ 51 3 3 true rfl Try.underlying51 Try.underlying3 (zero_int _) x rfl rfl ?_; rw [HX.out]; simp only [Option.map_none, Option.getD_none, Option.isSome_none, Option.map_some, Option.getD_some, Option.isSome_some, if_true]))
                go_roundw
                case rel => exact ⟨j + 1, g, by omega, by go_num, rfl, hrx.out⟩
                case measure => simp [intOf]; omega
            | some d =>
              have HD := hid hd
              obtain ⟨d0, d1, _⟩ := HW.out.sound kk d (mget_mem hd)
              clear hd
              have d2 : d ≤ 2000 := by omega
              have hwr : IntKind.i64.wrap (d + 1) = d + 1 := by rw [IntKind.wrap_i64]; omega
              cases hmx : mget F x with
              | none =>
                have HX := hid hmx
                have HST3 := hid (HST2.out d HD.out (fun was h => by rw [HX.out] at h; cases h))
                clear hmx HST HST2 d1
                go_wp2_with (first
                  | (at_lookup; refine step_lookup HM.out rfl _ _ 51 3 3 true rfl Try.underlying51 Try.underlying3 (zero_int _) kk rfl rfl ?_; rw [HD.out]; simp only [Option.map_some, Option.getD_some, Option.isSome_some, if_true])
                  | (at_lookup; refine step_lookup HM.out rfl _ _ 51 3 3 true rfl Try.underlying51 Try.underlying3 (zero_int _) x rfl rfl ?_; rw [HX.out]; simp only [Option.map_none, Option.getD_none, Option.isSome_none, if_true])
                  | (at_mapUpdate; refine step_mapUpdate HM.out rfl _ _ _ 51 3 3 rfl Try.underlying51 Try.underlying3 x (d + 1) rfl rfl rfl ?_; intro w7 hm7 hc7 hs7))
                go_roundw
                case rel => exact ⟨j + 1, true, by omega, by go_num, rfl, HST3.out w7 hm7 hc7⟩
                case measure => simp [intOf]; omega
              | some was =>
                have HX := hid hmx
                clear hmx d1
                by_cases hlw : d + 1 < was
                · have HST3 := hid (HST2.out d HD.out (fun was' h => by rw [HX.out] at h; cases h; exact hlw))
                  have hdl : decide (d + 1 < was) = true := decide_eq_true hlw
                  clear HST HST2 hlw
                  go_wp2_with (first
                    | (at_lookup; refine step_lookup HM.out rfl _ _ 51 3 3 true rfl Try.underlying51 Try.underlying3 (zero_int _) kk rfl rfl ?_; rw [HD.out]; simp only [Option.map_some, Option.getD_some, Option.isSome_some, if_true])
                    | (at_lookup; refine step_lookup HM.out rfl _ _ 51 3 3 true rfl Try.underlying51 Try.underlying3 (zero_int _) x rfl rfl ?_; rw [HX.out]; simp only [Option.map_some, Option.getD_some, Option.isSome_some, if_true])
                    | (at_mapUpdate; refine step_mapUpdate HM.out rfl _ _ _ 51 3 3 rfl Try.underlying51 Try.underlying3 x (d + 1) rfl rfl rfl ?_; intro w7 hm7 hc7 hs7))
                  go_roundw
                  case rel => exact ⟨j + 1, true, by omega, by go_num, rfl, HST3.out w7 hm7 hc7⟩
                  case measure => simp [intOf]; omega
                · have hrx := hid (HST.out (fun d' h => by rw [HD.out] at h; cases h; exact ⟨was, HX.out, by omega⟩))
                  have hdl : decide (d + 1 < was) = false := decide_eq_false hlw
                  clear HST HST2 hlw
                  go_wp2_with (first
                    | (at_lookup; refine step_lookup HM.out rfl _ _ 51 3 3 true rfl Try.underlying51 Try.underlying3 (zero_int _) kk rfl rfl ?_; rw [HD.out]; simp only [Option.map_some, Option.getD_some, Option.isSome_some, if_true])
                    | (at_lookup; refine step_lookup HM.out rfl _ _ 51 3 3 true rfl Try.underlying51 Try.underlying3 (zero_int _) x rfl rfl ?_; rw [HX.out]; simp only [Option.map_some, Option.getD_some, Option.isSome_some, if_true]))
                  go_roundw
                  case rel => exact ⟨j + 1, g, by omega, by go_num, rfl, hrx.out⟩
                  case measure => simp [intOf]; omega
          · obtain rfl : (suc e x).length = j := by omega
            go_wp2_with fail
            go_roundg todo'.length
            case measure => exact hl2
            case rel =>
              refine ⟨g, rfl, hid ⟨todo', F, Nat.le_refl _, HR.out, HM.out, HW.out, HC.out, fun hg => ⟨(HV.out.1 hg).1, fun n hn hno k hk => ?_⟩, HV.out.2⟩⟩
              by_cases hnx : n = x
              · subst hnx
                obtain ⟨i, hi, rfl⟩ := List.getElem_of_mem hk
                exact (HV.out.1 hg).2.2 i hi _ (List.getElem?_eq_getElem hi)
              · refine (HV.out.1 hg).2.1 n hn (fun hm => ?_) k hk
                rw [(HP.out.map (·.1)).mem_iff, List.map_cons, List.mem_cons] at hm
                exact hm.elim hnx hno
end Go.Proofs.Ytlhblkpdfdpiaaa.Wt
