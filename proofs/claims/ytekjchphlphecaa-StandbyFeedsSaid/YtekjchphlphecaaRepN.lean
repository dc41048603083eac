import Derived.Test.YtekjchphlphecaaA2
import Derived.Laws.MakeOwn
import Derived.Laws.CopyRow
namespace Go.Proofs.Ytekjchphlphecaa
open Go.RowKit Go.ChangeMaps Go.MapKept
attribute [local go_sem] Go.Oper.rdK
set_option linter.unusedVariables false
set_option linter.unusedSimpArgs false
set_option maxHeartbeats 8000000

set_option maxRecDepth 100000 in
theorem mul64_1n (n : Nat) (h1 : 1 ≤ n) (h8 : n ≤ 8) (w : World) : Calls Try.prog 59 #[.int .u64 1, .int .u64 n] w fun e w' => e = .returned (.tuple #[.int .u64 0, .int .u64 n]) ∧ Chg NoB w w' := by
  have hc : n = 1 ∨ n = 2 ∨ n = 3 ∨ n = 4 ∨ n = 5 ∨ n = 6 ∨ n = 7 ∨ n = 8 := by omega
  rcases hc with rfl | rfl | rfl | rfl | rfl | rfl | rfl | rfl
  all_goals
    go_enter Try.func59, Try.ntmps59
    go_wp2
    go_ret2
    exact ⟨rfl, Chg.refl _ _⟩
set_option maxRecDepth 100000 in
theorem mul1n (n : Nat) (h1 : 1 ≤ n) (h8 : n ≤ 8) (w : World) : Calls Try.prog 44 #[.int .u64 1, .int .u64 n] w fun e w' => e = .returned (.tuple #[.int .u64 0, .int .u64 n]) ∧ Chg NoB w w' := by
  go_enter Try.func44, Try.ntmps44
  go_wp2_with (go_at_call 59; refine (mul64_1n n h1 h8 _).mono ?_; rintro en w2 ⟨rfl, hc2⟩)
  go_ret2
  exact ⟨rfl, hc2⟩
/-- copy of m elements into a block that is known whole -/
theorem step_copyE {P : Program} {ops : Array Oper} {rest : List Oper} {o : Oper} {a : Act} {w : World} {Q : Exit → Act → World → Prop} (hgd : o.guard = none) (d x : Operand) (dT sT : TypeId) (hop : o.op = .call { callee := .builtin .copy, args := #[d, x], argTypes := #[dT, sT] })
    (elem size : TypeId) (hu : P.underlying dT = some (.slice elem)) (hs : (P.info? elem).map (·.size) = some size) (g off dLen dCap : Nat) (hd : a.eval d = .slice (some ⟨g, off, none⟩) dLen dCap) (ad : Addr) (m c : Nat) (hx : a.eval x = .slice (some ad) m c)
    (k : Nat) (hm : Nat.min m dLen = k) {old : List Value} {t : TypeId} (hg : w.heap[g]? = some (.cells old.toArray t (0, 0))) (cs : List Value) (hn : cs.length = k * size) (hsrc : ∀ j v, cs[j]? = some v → w.cell? (ad.add j) = some v) (hfit : off + cs.length ≤ old.length) (h1 : ∀ v ∈ cs, v.oneCell' = true)
    (hK : ∀ w', w'.heap[g]? = some (.cells (old.take off ++ cs ++ old.drop (off + cs.length)).toArray t (0, 0)) → Chg (OneB g) w w' → w'.heap.size = w.heap.size → wpList P ops Q rest (a.put o.dst (goInt k)) w') : wpList P ops Q (o :: rest) a w := by
  have hl := run_loadCells_list (P := P) w ad cs hsrc
  have hst := run_storeCells_at P g off t cs 0 old.toArray w hg (by simpa using hfit) h1
  simp only [Nat.add_zero] at hst
  have hr : (Builtin.copy_ #[dT, sT] o.type #[.slice (some ⟨g, off, none⟩) dLen dCap, .slice (some ad) m c]).run P w = .ok (goInt k) (w.setRow g (old.take off ++ cs ++ old.drop (off + cs.length)).toArray) := by
    cases hq : P.info? elem with
    | none => simp [hq] at hs
    | some i =>
      have hi : i.size = size := by simpa [hq] using hs
      simp [Builtin.copy_, run_underlying hu, Builtin.lenOf, Builtin.firstCells, sizeOf, typeInfo, hq, hi, hm, ← hn, hl, hst]
  refine step_run (v := goInt k) (w' := w.setRow g (old.take off ++ cs ++ old.drop (off + cs.length)).toArray) (wanted_none hgd) ?_ (hK _ (setRow_heap w g _ _ t _ hg) ((Chg.refl (OneB g) w).setRow (.inl (OneB.self g)) _) (by simp))
  simp [execOp, hop, resolve, invoke, builtin, hd, hx, hr, Result.andThen]
theorem slPage : SlT Try.prog 49 48 (.agg #[.int .i64 0, .string ⟨#[]⟩]) 2 24 := ⟨Try.underlying49, by kernel_rfl, rfl, by decide⟩
/-- n pages' cells, alike. -/
def repC (n : Nat) (p : Pg) : List Value := (List.replicate n p).flatMap fun p => [.int .i64 p.at_, .string p.data]
theorem repC_len (n : Nat) (p : Pg) : (repC n p).length = n * 2 := by
  induction n with
  | zero => rfl
  | succ n ih => unfold repC at *; rw [List.replicate_succ, List.flatMap_cons, List.length_append, ih]; simp; omega
theorem repC_add (m n : Nat) (p : Pg) : repC (m + n) p = repC m p ++ repC n p := by unfold repC; rw [← List.replicate_append_replicate, List.flatMap_append]
theorem repC_one {n : Nat} {p : Pg} : ∀ v ∈ repC n p, v.oneCell' = true := by
  intro v hv
  unfold repC at hv
  obtain ⟨q, _, hq⟩ := List.mem_flatMap.1 hv
  simp only [List.mem_cons, List.not_mem_nil, or_false] at hq
  rcases hq with rfl | rfl <;> rfl
set_option maxRecDepth 100000 in
theorem maken (n : Nat) (h8 : n ≤ 8) (h1 : 1 ≤ n) (w : World) : (Instr.makeSlice 49 (.int .i64 n) (.int .i64 n)).run Try.prog w = .ok (.slice (some ⟨w.heap.size, 0, none⟩) n n) (w.alloc (.cells (repC n Pg.none).toArray 48)) := by
  obtain ⟨i, hi, hz0, hz1, hz2⟩ := info_parts slPage.inf
  have h := run_makeSlice (P := Try.prog) (w := w) 49 48 i _ slPage.und hi hz0 .i64 .i64 n n (by omega) (by omega) (by rw [hz1]; omega) (by rw [hz2]; omega) (by omega)
  rw [hz1] at h
  have hc : n = 1 ∨ n = 2 ∨ n = 3 ∨ n = 4 ∨ n = 5 ∨ n = 6 ∨ n = 7 ∨ n = 8 := by omega
  have e : madeCells (Value.agg #[.int .i64 0, .string ⟨#[]⟩]).cells ((n : Int).toNat * 2) = (repC n Pg.none).toArray := by
    rcases hc with rfl | rfl | rfl | rfl | rfl | rfl | rfl | rfl <;> kernel_rfl
  rw [h, e]
  simp
theorem news_at {w : World} {b off : Nat} {pre cs post : List Value} {t : TypeId} {f : Nat × Nat} (h : w.heap[b]? = some (.cells (pre ++ cs ++ post).toArray t f)) (ho : pre.length = off) : ∀ j u, cs[j]? = some u → w.cell? ((⟨b, off, none⟩ : Addr).add j) = some u := fun j u hu => by
  have e1 : (⟨b, off, none⟩ : Addr).add j = ⟨b, off + j, none⟩ := by unfold Addr.add; split <;> simp_all
  have hj := (List.getElem?_eq_some_iff.1 hu).1
  subst ho
  rw [e1, cell_blk h, List.getElem?_toArray, List.append_assoc, List.getElem?_append_right (by omega), List.getElem?_append_left (by omega), Nat.add_sub_cancel_left]
  exact hu
set_option maxRecDepth 100000 in
theorem repeatN (g n : Nat) (q : Pg) (w : World) (hg : w.heap[g]? = some (.cells #[.int .i64 q.at_, .string q.data] 48 (0, 0))) (h1 : 1 ≤ n) (h8 : n ≤ 8) :
    Calls Try.prog 24 #[.slice (some ⟨g, 0, none⟩) 1 1, .int .i64 n] w fun e w' => ∃ h, e = .returned (.slice (some ⟨h, 0, none⟩) n n) ∧ w'.heap[h]? = some (.cells (repC n q).toArray 48 (0, 0)) ∧ Chg NoB w w' ∧ w.heap.size ≤ h := by
  have HG := hid hg
  have hmk := fun w => maken n h8 h1 w
  have hu : IntKind.u64.wrap (n : Int) = (n : Int) := by simp [IntKind.wrap, IntKind.signed, IntKind.bits]; omega
  have hi : IntKind.i64.wrap (n : Int) = (n : Int) := by rw [IntKind.wrap_i64]; omega
  have e1 : ¬ (n : Int) < 0 := by omega
  have e2 : ¬ (9223372036854775807 : Int) < (n : Int) := by omega
  clear hg
  go_enter Try.func24, Try.ntmps24
  go_wp2_with (first
    | (go_at_call 44; refine (mul1n n h1 h8 _).mono ?_; rintro en w2 ⟨rfl, hc2⟩)
    | (refine step_copyE rfl _ _ _ _ rfl 48 2 Try.underlying49 (by kernel_rfl) w2.heap.size 0 n n rfl ⟨g, 0, none⟩ 1 1 rfl 1 (Nat.min_eq_left h1) (blk_new _ _) [.int .i64 q.at_, .string q.data] rfl (news_at (pre := []) (post := []) (((hc2.alloc _).heap HG.out nob)) rfl) (by rw [repC_len]; simp; omega) (by simp [Value.oneCell']) ?_; intro w3 hb3 hc3 hs3))
  have hs2 := hc2.size
  have HF : Hid (w3.heap[w2.heap.size]? = some (.cells (repC 1 q ++ repC (n - 1) Pg.none).toArray 48 (0, 0)) ∧ Chg NoB w w3) := hid ⟨by
    have e : repC n Pg.none = repC 1 Pg.none ++ repC (n - 1) Pg.none := by rw [← repC_add, Nat.add_sub_cancel' h1]
    rw [hb3, e]; rfl, (hc2.alloc _).new hc3 (fun i x => by have h' : i = w2.heap.size := x; omega)⟩
  clear hb3 hc3 hs3 hmk hu hi e1 e2
  go_loopw [8] (fun i wr => ∃ k : Nat, 1 ≤ k ∧ k ≤ n ∧ i = .int .i64 k ∧ Hid (wr.heap[w2.heap.size]? = some (.cells (repC k q ++ repC (n - k) Pg.none).toArray 48 (0, 0)) ∧ Chg NoB w wr)) (fun i _ => n - (intOf i).toNat)
  case atStart => exact ⟨1, Nat.le_refl _, h1, rfl, HF⟩
  case round =>
    obtain ⟨k, hk1, hkn, rfl, hI⟩ := hrel
    by_cases hlt : k < n
    · have hlt' : (k : Int) < (n : Int) := by omega
      obtain ⟨m, hm⟩ := named (Nat.min k (n - k))
      have hm1 : 1 ≤ m ∧ m ≤ k ∧ m ≤ n - k := by rw [hm.out]; have : Nat.min k (n - k) = min k (n - k) := rfl; omega
      have hsrc : Hid (∀ j v, (repC m q)[j]? = some v → wr.cell? ((⟨w2.heap.size, 0, none⟩ : Addr).add j) = some v) := hid (news_at (pre := []) (post := repC (k - m) q ++ repC (n - k) Pg.none) (by
        rw [hI.out.1]
        rw [List.nil_append, ← List.append_assoc, ← repC_add, Nat.add_sub_cancel' hm1.2.1]) rfl)
      have hnew : Hid ((repC k q ++ repC (n - k) Pg.none).take (k * 2) ++ repC m q ++ (repC k q ++ repC (n - k) Pg.none).drop (k * 2 + (repC m q).length) = repC (k + m) q ++ repC (n - (k + m)) Pg.none) := hid (by
        have e : repC (n - k) Pg.none = repC m Pg.none ++ repC (n - (k + m)) Pg.none := by rw [← repC_add]; congr 1; omega
        rw [repC_len, ← repC_len k q, List.take_left', repC_len, repC_add, e]
        · rw [show k * 2 + m * 2 = (repC k q ++ repC m Pg.none).length by simp [repC_len], ← List.append_assoc, List.drop_left']
          rfl
        · rfl)
      have hfit : Hid (k * 2 + (repC m q).length ≤ (repC k q ++ repC (n - k) Pg.none).length) := hid (by simp [repC_len]; omega)
      have hne : ¬ n = k := by omega
      have hw : IntKind.i64.wrap ((k : Int) + (m : Int)) = (k : Int) + (m : Int) := by rw [IntKind.wrap_i64]; omega
      go_upto_region 9 with fail
      refine wp_region_ord 10 (.rd 0 (.rd 1 (.rd 2 (.rd 3 (.rd 4 (.rd 5 (.rd 6 (.one 7 (.rd 8 (.rd 9 (.done))))))))))) (fun _ => True) (by kernel_rfl) (by kernel_rfl) (by kernel_rfl) (by kernel_rfl) (by kernel_rfl) (fun _ _ d _ _ h => by cases d <;> exact h) (trivial) (fun hS0 => ?_)
      refine wpOrd_rd rfl rfl (by first | decide | simp) (by assumption) (fun w' hw' K hK => by ((try unfold Same at hw'); (try go_split_ands); go_simp; exact hK)) ?_
      refine wpOrd_rd rfl rfl (by first | decide | simp) (by assumption) (fun w' hw' K hK => by ((try unfold Same at hw'); (try go_split_ands); go_simp; exact hK)) ?_
      refine wpOrd_rd rfl rfl (by first | decide | simp) (by assumption) (fun w' hw' K hK => by ((try unfold Same at hw'); (try go_split_ands); go_simp; exact hK)) ?_
      refine wpOrd_rd rfl rfl (by first | decide | simp) (by assumption) (fun w' hw' K hK => by ((try unfold Same at hw'); (try go_split_ands); go_simp; exact hK)) ?_
      refine wpOrd_rd rfl rfl (by first | decide | simp) (by assumption) (fun w' hw' K hK => by ((try unfold Same at hw'); (try go_split_ands); go_simp; exact hK)) ?_
      refine wpOrd_rd rfl rfl (by first | decide | simp) (by assumption) (fun w' hw' K hK => by ((try unfold Same at hw'); (try go_split_ands); go_simp; exact hK)) ?_
      refine wpOrd_rd rfl rfl (by first | decide | simp) (by assumption) (fun w' hw' K hK => by ((try unfold Same at hw'); (try go_split_ands); go_simp; exact hK)) ?_
      refine wpOrd_do rfl ?_
      refine step_copyE rfl _ _ _ _ rfl 48 2 Try.underlying49 (by kernel_rfl) w2.heap.size (k * 2) (n - k) (n - k) (by simp [Act.eval, hne]) ⟨w2.heap.size, 0, none⟩ k n rfl m hm.out.symm (show (World.drew wr).heap[w2.heap.size]? = _ from hI.out.1) (repC m q) (repC_len m q) hsrc.out hfit.out repC_one ?_; intro w4 hb4 hc4 hs4
      (try dsimp only [Act.put])
      (try simp only [List.setIfInBounds_toArray, List.set_cons_zero, List.set_cons_succ])
      refine wpOrd_done (trivial) (fun hS1 => ?_)
      refine wpOrd_rd rfl rfl (by first | decide | simp) (by assumption) (fun w' hw' K hK => by ((try unfold Same at hw'); (try go_split_ands); go_simp; exact hK)) ?_
      refine wpOrd_rd rfl rfl (by first | decide | simp) (by assumption) (fun w' hw' K hK => by ((try unfold Same at hw'); (try go_split_ands); go_simp; exact hK)) ?_
      refine wpOrd_nil ?_
      go_wp2_with fail
      go_roundw
      case rel => exact ⟨k + m, by omega, by omega, by rw [Int.natCast_add], by rw [← hnew.out]; exact hb4, (hI.out.2.drew.trans hc4 (fun i x => .inr (by have h' : i = w2.heap.size := x; omega)))⟩
      case measure => simp [intOf, hw]; omega
    · have hlt' : ¬ (k : Int) < (n : Int) := by omega
      have hkn' : k = n := by omega
      subst hkn'
      go_wp2_with fail
      go_ret
      exact ⟨_, rfl, by rw [hI.out.1, Nat.sub_self]; simp [repC], hI.out.2, hs2⟩
end Go.Proofs.Ytekjchphlphecaa
