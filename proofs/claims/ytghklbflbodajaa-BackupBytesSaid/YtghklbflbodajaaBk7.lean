import Derived.Test.YtghklbflbodajaaB3
namespace Go.Proofs.Ytghklbflbodajaa
open Go.RowKit Go.ChangeMaps Go.MapKept
set_option linter.unusedVariables false
set_option linter.unusedSimpArgs false
set_option linter.unnecessarySimpa false
set_option maxHeartbeats 8000000

/-- What Read answers. -/
def RdAns (s : ByteArray) (w w' : World) (e : Ending) : Prop :=
  match bkRead s with
  | none => e = .returned (.tuple #[.pointer none, .int .i64 3]) ∧ Chg NoB w w'
  | some L => ∃ p g, e = .returned (.tuple #[.pointer (some ⟨p, 0, none⟩), .int .i64 0]) ∧ Hid (BkAt w' p g L) ∧ Hid (Chg NoB w w') ∧ w.heap.size ≤ p ∧ w.heap.size ≤ g
theorem RdAns.none' {s : ByteArray} {w w' : World} {e : Ending} (h : bkRead s = none) (he : e = .returned (.tuple #[.pointer none, .int .i64 3])) (hc : Chg NoB w w') : RdAns s w w' e := by
  unfold RdAns; rw [h]; exact ⟨he, hc⟩
theorem mkFn : ∀ (fn : Fn) (first cap : Array Value) (w : World), (Instr.makeFunc fn first cap).run Try.prog w = .ok (.func fn first cap) w := fun _ _ _ _ => rfl

theorem res_cells2 {P : Program} {fn : Func} {p q : Tmp} {t1 t2 : TypeId} {d1 d2 : TypeDesc} (hu1 : P.underlying t1 = some d1) (hd1 : (match d1 with | .struct _ | .array _ _ => true | _ => false) = false) (hu2 : P.underlying t2 = some d2) (hd2 : (match d2 with | .struct _ | .array _ _ => true | _ => false) = false)
    (h : fn.results = #[.cell p t1, .cell q t2]) (tmps : Array Value) (w : World) (a b : Addr) {v1 v2 : Value} (hp : tmps.getD p undef = .pointer (some a)) (hq : tmps.getD q undef = .pointer (some b)) (h1 : w.cell? a = some v1) (h2 : w.cell? b = some v2) :
    (results fn tmps).run P w = .ok (.tuple #[v1, v2]) w := by
  have hp' : tmps[p]?.getD undef = .pointer (some a) := by simpa using hp
  have hq' : tmps[q]?.getD undef = .pointer (some b) := by simpa using hq
  simp only [results, h]
  simp [hp', hq', asAddr, run_loadVar_cell hu1 hd1 h1, run_loadVar_cell hu2 hd2 h2, Result.andThen]
/-- The end behind a panic. -/
theorem door_panic {s : ByteArray} {w W : World} {tmps : Array Value} (hn : bkRead s = none) (hc : Chg NoB w W) {u1 u2 : Value} {T1 T2 : TypeId} (h2 : W.heap[w.heap.size]? = some (.cells #[u1] T1 (0, 0))) (h3 : W.heap[w.heap.size + 1]? = some (.cells #[u2] T2 (0, 0)))
    (ht2 : tmps.getD 2 undef = .pointer (some ⟨w.heap.size, 0, none⟩)) (ht3 : tmps.getD 3 undef = .pointer (some ⟨w.heap.size + 1, 0, none⟩)) :
    bodyPostD Try.prog Try.f7 (fun e w' => RdAns s w w' e) (Exit.panic [{ v := .iface 24 (.int .i64 3), recovered := false }]) { tmps := tmps, defers := [{ target := Target.fn (Fn.func 22) #[.pointer (some ⟨w.heap.size, 0, none⟩), .pointer (some ⟨w.heap.size + 1, 0, none⟩)], args := #[] }] } W := by
  refine leaves_cons (f := 22) (args := #[.pointer (some ⟨w.heap.size, 0, none⟩), .pointer (some ⟨w.heap.size + 1, 0, none⟩)]) (by simp) (by simp [go_sem]) ?_
  refine (bkCatch w.heap.size (w.heap.size + 1) 3 [] W (frozen_blk h2 0) (frozen_blk h3 0) u1 u2 (by rw [cell_blk h2]; rfl) (by rw [cell_blk h3]; rfl) (by omega)).mono ?_
  rintro e u' w'' ⟨rfl, rfl, rfl⟩
  have k2 : ((W.setCell ⟨w.heap.size, 0, none⟩ (.pointer none)).setCell ⟨w.heap.size + 1, 0, none⟩ (.int .i64 3)).cell? ⟨w.heap.size, 0, none⟩ = some (.pointer none) := by
    rw [cell_blk (blk_setCell_other (blk_setCell h2 0 _) (by show w.heap.size ≠ w.heap.size + 1; omega) _)]; rfl
  have k3 : ((W.setCell ⟨w.heap.size, 0, none⟩ (.pointer none)).setCell ⟨w.heap.size + 1, 0, none⟩ (.int .i64 3)).cell? ⟨w.heap.size + 1, 0, none⟩ = some (.int .i64 3) := by
    rw [cell_blk (blk_setCell (blk_setCell_other h3 (by show w.heap.size + 1 ≠ w.heap.size; omega) _) 0 _)]; rfl
  refine ⟨_, res_cells2 Try.underlying23 rfl Try.underlying24 rfl rfl tmps _ _ _ ht2 ht3 k2 k3, RdAns.none' hn rfl ((hc.setCell (.inr (Nat.le_refl _)) _).setCell (.inr (by show w.heap.size ≤ w.heap.size + 1; omega)) _)⟩
set_option maxRecDepth 100000 in
theorem read_short (s : ByteArray) (w : World) (hs : s.size ≤ 4) (hn : bkRead s = none) :
    Calls Try.prog 7 #[.string s] w fun e w' => RdAns s w w' e := by
  have hmf := mkFn
  have hs' : ¬ ((s.size : Int) > 4) := by omega
  go_enter_defers Try.func7, Try.ntmps7
  go_wp2_with (go_at_call 23; refine (bkMust_no _).mono ?_; rintro e w1 ⟨rfl, rfl⟩)
  exact door_panic hn (((Chg.refl NoB w).alloc _).alloc _) (heap_alloc2_old _ _ _) (heap_alloc2_new _ _ _) rfl rfl

theorem bkRead_none {s : ByteArray} (h : bkHead s = false) : bkRead s = none := by unfold bkRead; rw [h]; rfl
theorem bkRead_bad {s : ByteArray} (h : bkHead s = true) {k : Nat} (hk : k < bkN s) (hg : bkGood s k = false) : bkRead s = none := by
  unfold bkRead
  rw [if_neg]
  rw [h, Bool.true_and]
  intro ha
  rw [List.all_eq_true] at ha
  have := ha k (List.mem_range.2 hk)
  rw [hg] at this
  cases this
set_option maxRecDepth 100000 in
theorem read_pre (s : ByteArray) (w : World) (h4 : 4 < s.size) (hf : s.size ≤ 2 ^ 63 - 1) (hp : ((s.extract 0 4).toList == [66, 75, 80, 49]) = false) (hn : bkRead s = none) :
    Calls Try.prog 7 #[.string s] w fun e w' => RdAns s w w' e := by
  have hmf := mkFn
  have hs' : ((s.size : Int) > 4) := by omega
  have hpc := fun w => hasPre s w (by omega) hf false (hid hp.symm)
  go_enter_defers Try.func7, Try.ntmps7
  go_wp2_with (first
    | (go_at_call 24; refine (hpc _).mono ?_; rintro e w1 ⟨rfl, rfl⟩)
    | (go_at_call 23; refine (bkMust_no _).mono ?_; rintro e w1 ⟨rfl, rfl⟩))
  exact door_panic hn (((Chg.refl NoB w).alloc _).alloc _) (heap_alloc2_old _ _ _) (heap_alloc2_new _ _ _) rfl rfl
set_option maxRecDepth 100000 in
theorem read_new (s : ByteArray) (w : World) (h4 : 4 < s.size) (hf : s.size ≤ 2 ^ 63 - 1) (hp : ((s.extract 0 4).toList == [66, 75, 80, 49]) = true) (h8 : bkN s < 1 ∨ 8 < bkN s) (hn : bkRead s = none) :
    Calls Try.prog 7 #[.string s] w fun e w' => RdAns s w w' e := by
  have hmf := mkFn
  have hs' : ((s.size : Int) > 4) := by omega
  have hpc := fun w => hasPre s w (by omega) hf true (hid hp.symm)
  obtain ⟨n, hnn⟩ := named (bkN s)
  have hn4 : (s[4]'h4).toNat = n := by rw [hnn.out]; unfold bkN; rw [dif_pos h4]
  rw [← hnn.out] at h8
  have hn255 : n ≤ 255 := by have := (s[4]'h4).toNat_lt; omega
  have z2 : (((w.alloc (.cells #[.pointer none] 23)).alloc (.cells #[.int .i64 0] 24)).cell? ⟨w.heap.size, 0, none⟩) = some (.pointer none) := by rw [cell_blk (heap_alloc2_old _ _ _)]; rfl
  have f2 : (((w.alloc (.cells #[.pointer none] 23)).alloc (.cells #[.int .i64 0] 24)).frozen? ⟨w.heap.size, 0, none⟩) = false := frozen_blk (heap_alloc2_old _ _ _) 0
  have hnb := fun w => bnew_bad (n : Int) w (by omega)
  have hlt4 : (4 : Int) < (s.size : Int) := by omega
  go_enter_defers Try.func7, Try.ntmps7
  go_wp2_with (first
    | (go_at_call 24; with_reducible refine (hpc _).mono ?_; rintro e w1 ⟨rfl, rfl⟩)
    | (go_at_call 6; with_reducible refine (hnb _).mono ?_; rintro e w1 ⟨rfl, rfl⟩)
    | (go_at_call 23; first | (with_reducible refine (bkMust_ok _).mono ?_; rintro e w1 ⟨rfl, rfl⟩) | (with_reducible refine (bkMust_no _).mono ?_; rintro e w1 ⟨rfl, rfl⟩)))
  exact door_panic hn (((Chg.refl NoB w).alloc _).alloc _) (heap_alloc2_old _ _ _) (heap_alloc2_new _ _ _) rfl rfl
set_option maxRecDepth 100000 in
theorem read_size (s : ByteArray) (w : World) (h4 : 4 < s.size) (hf : s.size ≤ 2 ^ 63 - 1) (hp : ((s.extract 0 4).toList == [66, 75, 80, 49]) = true) (h1 : 1 ≤ bkN s) (h8 : bkN s ≤ 8) (hz : s.size ≠ 5 + bkN s * 228) (hn : bkRead s = none) :
    Calls Try.prog 7 #[.string s] w fun e w' => RdAns s w w' e := by
  have hmf := mkFn
  have hs' : ((s.size : Int) > 4) := by omega
  have hpc := fun w => hasPre s w (by omega) hf true (hid hp.symm)
  obtain ⟨n, hnn⟩ := named (bkN s)
  have hn4 : (s[4]'h4).toNat = n := by rw [hnn.out]; unfold bkN; rw [dif_pos h4]
  rw [← hnn.out] at h8 h1 hz
  have z2 : (((w.alloc (.cells #[.pointer none] 23)).alloc (.cells #[.int .i64 0] 24)).cell? ⟨w.heap.size, 0, none⟩) = some (.pointer none) := by rw [cell_blk (heap_alloc2_old _ _ _)]; rfl
  have f2 : (((w.alloc (.cells #[.pointer none] 23)).alloc (.cells #[.int .i64 0] 24)).frozen? ⟨w.heap.size, 0, none⟩) = false := frozen_blk (heap_alloc2_old _ _ _) 0
  have hnb := fun w => bnew_calls n w h1 h8
  have hlt4 : (4 : Int) < (s.size : Int) := by omega
  have hz' : ((s.size : Int) == 5 + (n : Int) * 228) = false := by rw [beq_eq_false_iff_ne]; omega
  have HA : Hid (Chg NoB w ((w.alloc (.cells #[.pointer none] 23)).alloc (.cells #[.int .i64 0] 24))) := hid (((Chg.refl NoB w).alloc _).alloc _)
  go_enter_defers Try.func7, Try.ntmps7
  go_wp2_with (first
    | (go_at_call 24; with_reducible refine (hpc _).mono ?_; rintro e w1 ⟨rfl, rfl⟩)
    | (go_at_call 6; with_reducible refine (hnb _).mono ?_; rintro e w1 ⟨p, g, rfl, hB1, hC1, hp1, hg1⟩; have z2' := hC1.out.cell z2 nob; have HZ2 := hid (hC1.out.heap (heap_alloc2_old w (.cells #[.pointer none] 23) (.cells #[.int .i64 0] 24)) nob); have HZ3 := hid (hC1.out.heap (heap_alloc2_new w (.cells #[.pointer none] 23) (.cells #[.int .i64 0] 24)) nob); have f2' := frozen_blk HZ2.out 0)
    | (go_at_call 23; first | (with_reducible refine (bkMust_ok _).mono ?_; rintro e w1 ⟨rfl, rfl⟩) | (with_reducible refine (bkMust_no _).mono ?_; rintro e w1 ⟨rfl, rfl⟩)))
  exact door_panic hn ((HA.out.trans' hC1.out).setCell (.inr (Nat.le_refl _)) _) (blk_setCell HZ2.out 0 _) (blk_setCell_other HZ3.out (by show w.heap.size + 1 ≠ w.heap.size; omega) _) rfl rfl

theorem w64_eq (n : Int) : wrap64 n = IntKind.i64.wrap n := by rw [IntKind.wrap_i64]; unfold wrap64; rfl
/-- Read, when k copies are read. -/
structure RdI (s : ByteArray) (w wr : World) (p g n k : Nat) : Prop where
  bk : BkAt wr p g (bkPart s n k)
  chg : Chg NoB w wr
  r2 : wr.heap[w.heap.size]? = some (.cells #[.pointer (some ⟨p, 0, none⟩)] 23 (0, 0))
  r3 : wr.heap[w.heap.size + 1]? = some (.cells #[.int .i64 0] 24 (0, 0))
  gp : w.heap.size + 1 < p
  gg : w.heap.size + 1 < g
  ok : ∀ i < k, bkGood s i = true
theorem RdI.keep {s : ByteArray} {w wr w' : World} {p g n k : Nat} (h : RdI s w wr p g n k) (hc : Chg NoB wr w') : RdI s w w' p g n k := ⟨h.bk.mono hc, h.chg.trans' hc, hc.heap h.r2 nob, hc.heap h.r3 nob, h.gp, h.gg, h.ok⟩
set_option maxRecDepth 100000 in
theorem read_body (s : ByteArray) (w : World) (h4 : 4 < s.size) (hf : s.size ≤ 2 ^ 63 - 1) (hp : ((s.extract 0 4).toList == [66, 75, 80, 49]) = true) (h1 : 1 ≤ bkN s) (h8 : bkN s ≤ 8) (hz : s.size = 5 + bkN s * 228) :
    Calls Try.prog 7 #[.string s] w fun e w' => RdAns s w w' e := by
  have hmf := mkFn
  have hs' : ((s.size : Int) > 4) := by omega
  have hpc := fun w => hasPre s w (by omega) hf true (hid hp.symm)
  have HH : Hid (bkHead s = true) := hid (by simp only [bkHead, Bool.and_eq_true, decide_eq_true_eq]; exact ⟨h4, hp, h1, h8, hz⟩)
  obtain ⟨n, hnn⟩ := named (bkN s)
  have hn4 : (s[4]'h4).toNat = n := by rw [hnn.out]; unfold bkN; rw [dif_pos h4]
  rw [← hnn.out] at h8 h1 hz
  have HZ := hid hz
  have z2 : (((w.alloc (.cells #[.pointer none] 23)).alloc (.cells #[.int .i64 0] 24)).cell? ⟨w.heap.size, 0, none⟩) = some (.pointer none) := by rw [cell_blk (heap_alloc2_old _ _ _)]; rfl
  have f2 : (((w.alloc (.cells #[.pointer none] 23)).alloc (.cells #[.int .i64 0] 24)).frozen? ⟨w.heap.size, 0, none⟩) = false := frozen_blk (heap_alloc2_old _ _ _) 0
  have hnb := fun w => bnew_calls n w h1 h8
  have hlt4 : (4 : Int) < (s.size : Int) := by omega
  have hz' : ((s.size : Int) == 5 + (n : Int) * 228) = true := by rw [beq_iff_eq]; omega
  have HA : Hid (Chg NoB w ((w.alloc (.cells #[.pointer none] 23)).alloc (.cells #[.int .i64 0] 24))) := hid (((Chg.refl NoB w).alloc _).alloc _)
  clear hz
  go_enter_defers Try.func7, Try.ntmps7
  go_upto_region 6 with (first
    | (go_at_call 24; with_reducible refine (hpc _).mono ?_; rintro e w1 ⟨rfl, rfl⟩)
    | (go_at_call 6; with_reducible refine (hnb _).mono ?_; rintro e w1 ⟨p, g, rfl, hB1, hC1, hp1, hg1⟩; have z2' := hC1.out.cell z2 nob; have HZ2 := hid (hC1.out.heap (heap_alloc2_old w (.cells #[.pointer none] 23) (.cells #[.int .i64 0] 24)) nob); have HZ3 := hid (hC1.out.heap (heap_alloc2_new w (.cells #[.pointer none] 23) (.cells #[.int .i64 0] 24)) nob); have f2' := frozen_blk HZ2.out 0)
    | (go_at_call 23; with_reducible refine (bkMust_ok _).mono ?_; rintro e w1 ⟨rfl, rfl⟩))
  simp only [World.size_alloc] at hp1 hg1
  refine wp_gen (fun W => RdI s w W p g n 0) ⟨?_, (HA.out.trans' hC1.out).setCell (.inr (Nat.le_refl _)) _, blk_setCell HZ2.out 0 _, blk_setCell_other HZ3.out (by show w.heap.size + 1 ≠ w.heap.size; omega) _, by omega, by omega, fun i hi => by omega⟩ ?_
  · have h9 : bkPart s n 0 = bkNew n := rfl
    rw [h9]
    exact hB1.out.keep (S := OneB w.heap.size) ((Chg.refl (OneB w.heap.size) _).setCell (.inl (OneB.self _)) _) (fun e => by have h' : p = w.heap.size := e; omega) (fun e => by have h' : g = w.heap.size := e; omega)
  intro W HI
  have HI0 := hid HI
  clear HI z2 f2 z2' f2' HZ2 HZ3 hB1 hC1 HA hp1 hg1
  go_upto_region 7 with fail
  go_loopw [42] (fun i wr => ∃ k : Nat, k ≤ n ∧ i = .int .i64 k ∧ Hid (RdI s w wr p g n k)) (fun i _ => n - (intOf i).toNat)
  case atStart => exact ⟨0, by omega, rfl, HI0⟩
  case round =>
    obtain ⟨k, hk, rfl, hI⟩ := hrel
    by_cases hlt : k < n
    · have b1 : (5 : Int) + (k : Int) * 228 ≤ (s.size : Int) := by have := HZ.out; omega
      have b2 : (228 : Int) ≤ (s.size : Int) - (5 + (k : Int) * 228) := by have := HZ.out; omega
      go_upto_region 11 with fail
      have ht' : (s.extract (5 + k * 228) s.size).extract 0 228 = bkT s k := rfl
      have htz : (bkT s k).size = 228 := by
        unfold bkT
        rw [ByteArray.size_extract, ByteArray.size_extract]
        have := HZ.out
        omega
      rw [ht']
      obtain ⟨t, ht⟩ := named (bkT s k)
      rw [← ht.out] at htz ⊢
      have htn : (t.size : Int) = 228 := by omega
      have h4z : (t.extract 0 4).size = 4 := by rw [ByteArray.size_extract]; omega
      have HTZ := hid htz
      have H4Z := hid h4z
      clear ht' htz h4z
      go_upto_region 12 with ((fail_if_success (fail_if_success (with_reducible change wpList _ _ _ (Oper.mk _ (.convert 9 _ _) _ _ _ _ :: _) _ _))); refine step_convB rfl _ _ _ _ rfl Try.underlying9 Try.underlying64 Try.underlying5 (t.extract 0 4) rfl ?_; intro w2 c2 hc2 hcc2 hbb; rw [H4Z.out])
      have HI2 := hid (hI.out.keep hc2)
      have HBB : Hid (∀ j (hj : j < 4), w2.cell? ⟨wr.heap.size, j, none⟩ = some (.int .u8 ((t.data[j]'(by have := HTZ.out; show j < t.size; omega)).toNat))) := hid (fun j hj => by
        have := hbb j (by rw [H4Z.out]; exact hj)
        rw [this]
        have e9 : ∀ (hh : j < (t.extract 0 4).data.size), ((t.extract 0 4).data[j]'hh) = (t.data[j]'(by have := HTZ.out; show j < t.size; omega)) := fun hh => by simp [ByteArray.data_extract]
        rw [e9])
      clear hbb hc2 hI
      obtain ⟨wB, hwB⟩ := named w2
      rw [← hwB.out] at HI2 HBB ⊢
      obtain ⟨tb, htb⟩ := named wr.heap.size
      rw [← htb.out] at HBB ⊢
      clear hwB htb
      rename World => wq
      go_loopw [8, 55] (fun at_ i wr => ∃ j : Nat, j ≤ 4 ∧ i = .int .i64 j ∧ at_ = .int .i64 (numK t j : Nat) ∧ Hid (RdI s w wr p g n k ∧ Chg NoB wq wr)) (fun _ i _ => 4 - (intOf i).toNat)
      case atStart => exact ⟨0, by omega, rfl, rfl, hid ⟨HI2.out, Chg.refl _ _⟩⟩
      case round =>
        obtain ⟨j, hj, rfl, rfl, hJ⟩ := hrel
        by_cases hj4 : j < 4
        · have hjt : j < t.size := by have := HTZ.out; omega
          have hbj := hJ.out.2.cell (HBB.out j hj4) nob
          have hor := orByte (numK t j) (t.data[j]'hjt) (by have := numK_lt t j; have : 256 ^ j ≤ 256 ^ 3 := Nat.pow_le_pow_right (by decide) (by omega); omega)
          rw [show numK t j * 256 + (t.data[j]'hjt).toNat = numK t (j + 1) from (numK_succ t j hjt).symm] at hor
          have HOR := hid hor
          clear hor
          go_wp2_with fail
          go_roundw
          case rel => exact ⟨j + 1, by omega, by go_num, (by rw [w64_eq, w64_eq]; exact congrArg (Value.int .i64) HOR.out), hJ⟩
          case measure => simp [intOf] <;> omega
        · obtain rfl : j = 4 := by omega
          obtain ⟨A, hA⟩ := named (numK t 4)
          have hAlt : A < 4294967296 := by rw [hA.out]; exact numK_lt t 4
          rw [← hA.out]
          obtain ⟨u, hu⟩ := named (unpackPg (t.extract 4 t.size))
          have hus : (t.extract 4 t.size).size ≤ 2 ^ 62 := by rw [ByteArray.size_extract]; have := HTZ.out; omega
          have hud : u.1.data.size ≤ 2 ^ 62 := by
            rw [hu.out]; unfold unpackPg
            split
            · dsimp only
              split
              · show ((t.extract 4 t.size).extract 4 _).size ≤ _
                rw [ByteArray.size_extract]; omega
              · show (0 : Nat) ≤ _; omega
            · show (0 : Nat) ≤ _; omega
          have hgood : Hid (bkGood s k = (decide (u.2 = 0) && decide (A ≤ 2147483647))) := hid (by unfold bkGood; rw [← ht.out, ← hu.out, ← hA.out])
          have hitem : Hid (bkItem s k = ⟨true, u.1, A⟩) := hid (by unfold bkItem; rw [← ht.out, ← hu.out, ← hA.out])
          obtain ⟨er, her⟩ := named u.2
          have hJ0 := hid hJ.out.1
          clear hJ HI2
          have b3 : (4 : Int) ≤ (t.size : Int) := by omega
          go_upto_region 17 with (first
            | (go_at_call 25; with_reducible refine (unpack_calls (t.extract 4 t.size) _ hus u hu).mono ?_; rintro e w3 ⟨rfl, hc3⟩)
            | ((fail_if_success (fail_if_success (with_reducible change wpList _ _ _ (Oper.mk _ (.store 40 _ _) _ _ _ _ :: _) _ _))); refine step_storeRow rfl rfl w3.heap.size rfl rfl (blk_new _ _) (by kernel_rfl) rfl (by simp [Value.oneCell']) ?_; intro w4 hb4 hc4 hs4))
          have hc5 : Chg NoB wr w4 := ((hc3.alloc _)).new hc4 (fun i x => by have h' : i = w3.heap.size := x; have := hc3.size; omega)
          have HJ4 := hid (hJ0.out.keep hc5)
          have HB4 := hid hb4
          have hlw : w3.heap.size < w4.heap.size := lt_of_block hb4
          obtain ⟨xb, hxb⟩ := named w3.heap.size
          obtain ⟨wC, hwC⟩ := named w4
          rw [← hxb.out, ← hwC.out] at HB4
          rw [← hwC.out] at HJ4
          rw [← hxb.out, ← hwC.out, ← her.out]
          clear hb4 hc3 hc4 hs4 hc5 hlw hxb hwC HBB
          by_cases he : er = 0
          · subst he
            have r2c : wC.cell? ⟨w.heap.size, 0, none⟩ = some (.pointer (some ⟨p, 0, none⟩)) := by rw [cell_blk HJ4.out.r2]; rfl
            have x0 : wC.cell? ⟨xb, 0, none⟩ = some (.int .i64 u.1.at_) := by rw [cell_blk HB4.out]; rfl
            have x1 : wC.cell? ⟨xb, 1, none⟩ = some (.string u.1.data) := by rw [cell_blk HB4.out]; rfl
            have hur : u.1.right = true := by rw [hu.out]; exact unpack_right _ (by rw [← hu.out]; exact her.out.symm)
            by_cases hA2 : A ≤ 2147483647
            · have htk := bkPart_take s hlt (x := ⟨true, u.1, A⟩) hitem.out.symm hur (by show (0 : Int) ≤ (A : Int); omega) (by show (A : Int) ≤ _; omega) rfl
              have hok : bkGood s k = true := by rw [hgood.out, ← her.out]; simp [hA2]
              have htc := fun w h => bk_take_calls p g (bkPart s n k) (k : Int) (A : Int) u.1 w h hud (by unfold fits; omega) (by unfold fits; omega) (bkPart s n (k + 1), 0) (hid htk.symm)
              go_wp2_with (first
                | (go_at_call 13; with_reducible refine (htc _ HJ4.out.bk).mono ?_; rintro e w6 ⟨rfl, hB6, hC6⟩)
                | (go_at_call 23; with_reducible refine (bkMust_ok _).mono ?_; rintro e w7 ⟨rfl, rfl⟩))
              go_roundw
              case rel =>
                have hg1 := HJ4.out.gg
                refine ⟨k + 1, by omega, by go_num, hid ⟨hB6.out, HJ4.out.chg.new hC6.out (fun i x => by have h' : i = g := x; omega), hC6.out.heap HJ4.out.r2 (fun x => by have h' : w.heap.size = g := x; omega), hC6.out.heap HJ4.out.r3 (fun x => by have h' : w.heap.size + 1 = g := x; omega), HJ4.out.gp, hg1, fun i hi => ?_⟩⟩
                by_cases hik : i < k
                · exact HJ4.out.ok i hik
                · obtain rfl : i = k := by omega
                  exact hok
              case measure => simp [intOf] <;> omega
            · have hbad : bkRead s = none := bkRead_bad HH.out (k := k) (by rw [← hnn.out]; exact hlt) (by rw [hgood.out]; simp [hA2])
              have htk : bkTake (bkPart s n k) k u.1 A = (bkPart s n k, 1) := by
                have hl := bkPart_len s (Nat.le_of_lt hlt)
                generalize bkPart s n k = P at *
                unfold bkTake
                rw [if_neg (by omega), if_neg (by rw [hur]; decide), if_pos (by omega)]
              have htc := fun w h => bk_take_calls p g (bkPart s n k) (k : Int) (A : Int) u.1 w h hud (by unfold fits; omega) (by unfold fits; omega) (bkPart s n k, 1) (hid htk.symm)
              go_wp2_with (first
                | (go_at_call 13; with_reducible refine (htc _ HJ4.out.bk).mono ?_; rintro e w6 ⟨rfl, hB6, hC6⟩)
                | (go_at_call 23; with_reducible refine (bkMust_no _).mono ?_; rintro e w7 ⟨rfl, rfl⟩))
              have hg1 := HJ4.out.gg
              exact door_panic hbad (HJ4.out.chg.new hC6.out (fun i x => by have h' : i = g := x; omega)) (hC6.out.heap HJ4.out.r2 (fun x => by have h' : w.heap.size = g := x; omega)) (hC6.out.heap HJ4.out.r3 (fun x => by have h' : w.heap.size + 1 = g := x; omega)) rfl rfl
          · have hbad : bkRead s = none := bkRead_bad HH.out (k := k) (by rw [← hnn.out]; exact hlt) (by rw [hgood.out, ← her.out]; simp [he])
            go_wp2_with (go_at_call 23; with_reducible refine (bkMust_no _).mono ?_; rintro e w7 ⟨rfl, rfl⟩)
            exact door_panic hbad HJ4.out.chg HJ4.out.r2 HJ4.out.r3 rfl rfl
    · obtain rfl : k = n := by omega
      have hsome : Hid (bkRead s = some (bkPart s k k)) := hid (by
        unfold bkRead
        rw [HH.out, Bool.true_and, if_pos]
        · rw [← hnn.out]; simp [bkPart]
        · rw [List.all_eq_true]
          intro i hi
          rw [← hnn.out, List.mem_range] at hi
          exact hI.out.ok i hi)
      have c2 : wr.cell? ⟨w.heap.size, 0, none⟩ = some (.pointer (some ⟨p, 0, none⟩)) := by rw [cell_blk hI.out.r2]; rfl
      have c3 : wr.cell? ⟨w.heap.size + 1, 0, none⟩ = some (.int .i64 0) := by rw [cell_blk hI.out.r3]; rfl
      have f2 := frozen_blk hI.out.r2 0
      have f3 := frozen_blk hI.out.r3 0
      have f4 : (wr.setCell ⟨w.heap.size, 0, none⟩ (.pointer (some ⟨p, 0, none⟩))).frozen? ⟨w.heap.size + 1, 0, none⟩ = false := by simpa using f3
      have c4 : (wr.setCell ⟨w.heap.size, 0, none⟩ (.pointer (some ⟨p, 0, none⟩))).cell? ⟨w.heap.size + 1, 0, none⟩ = some (.int .i64 0) := by rw [World.cell?_setCell_other _ _ _ _ (by simp)]; exact c3
      have HR2 := hid (blk_setCell_other (blk_setCell hI.out.r2 0 (.pointer (some ⟨p, 0, none⟩))) (p := ⟨w.heap.size + 1, 0, none⟩) (by show w.heap.size ≠ w.heap.size + 1; omega) (.int .i64 0))
      have HR3 := hid (blk_setCell (blk_setCell_other hI.out.r3 (p := ⟨w.heap.size, 0, none⟩) (by show w.heap.size + 1 ≠ w.heap.size; omega) (.pointer (some ⟨p, 0, none⟩))) 0 (.int .i64 0))
      go_wp2_with fail
      refine leaves_cons (f := 22) (args := #[.pointer (some ⟨w.heap.size, 0, none⟩), .pointer (some ⟨w.heap.size + 1, 0, none⟩)]) (by simp) (by simp [go_sem]) ?_
      refine (bkIdle w.heap.size (w.heap.size + 1) _).mono ?_
      rintro e u' w'' ⟨rfl, rfl, rfl⟩
      refine ⟨_, res_cells2 Try.underlying23 rfl Try.underlying24 rfl rfl _ _ _ _ rfl rfl (by rw [cell_blk HR2.out]; rfl) (by rw [cell_blk HR3.out]; rfl), ?_⟩
      unfold RdAns
      rw [hsome.out]
      have hgp := hI.out.gp
      have hgg := hI.out.gg
      have hcc : Chg (fun k => k = w.heap.size ∨ k = w.heap.size + 1) wr ((wr.setCell ⟨w.heap.size, 0, none⟩ (.pointer (some ⟨p, 0, none⟩))).setCell ⟨w.heap.size + 1, 0, none⟩ (.int .i64 0)) := ((Chg.refl _ _).setCell (.inl (.inl rfl)) _).setCell (.inl (.inr rfl)) _
      refine ⟨p, g, rfl, hid (hI.out.bk.keep hcc (by omega) (by omega)), hid (hI.out.chg.trans hcc (fun i hi => .inr (by rcases hi with h | h <;> omega))), by omega, by omega⟩
set_option maxRecDepth 100000 in
theorem read_calls (s : ByteArray) (w : World) (hf : s.size ≤ 2 ^ 63 - 1) :
    Calls Try.prog 7 #[.string s] w fun e w' => RdAns s w w' e := by
  by_cases h4 : 4 < s.size
  · cases hp : ((s.extract 0 4).toList == [66, 75, 80, 49])
    · exact read_pre s w h4 hf hp (bkRead_none (by unfold bkHead; rw [hp]; simp))
    · by_cases h1 : 1 ≤ bkN s
      · by_cases h8 : bkN s ≤ 8
        · by_cases hz : s.size = 5 + bkN s * 228
          · exact read_body s w h4 hf hp h1 h8 hz
          · exact read_size s w h4 hf hp h1 h8 hz (bkRead_none (by unfold bkHead; simp [hz]))
        · exact read_new s w h4 hf hp (by omega) (bkRead_none (by unfold bkHead; simp [h8]))
      · exact read_new s w h4 hf hp (by omega) (bkRead_none (by unfold bkHead; simp [h1]))
  · exact read_short s w (by omega) (bkRead_none (by unfold bkHead; simp [h4]))
end Go.Proofs.Ytghklbflbodajaa
