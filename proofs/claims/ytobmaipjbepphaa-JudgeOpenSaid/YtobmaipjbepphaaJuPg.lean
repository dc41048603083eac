import Derived.Test.YtobmaipjbepphaaJuCo
import Derived.Test.YtobmaipjbepphaaJuF
import Derived.Laws.MakeOwn
import Derived.Laws.CopyRow
namespace Go.Proofs.Ytobmaipjbepphaa
open Go.RowKit Go.ChangeMaps Go.MapKept
set_option linter.unusedVariables false
set_option maxHeartbeats 8000000

set_option maxRecDepth 100000 in
theorem mul64_11 (w : World) : Calls Try.prog 38 #[.int .u64 1, .int .u64 1] w fun e w' => e = .returned (.tuple #[.int .u64 0, .int .u64 1]) ∧ Chg NoB w w' := by
  go_enter Try.func38, Try.ntmps38
  go_wp2
  go_ret2
  exact ⟨rfl, Chg.refl _ _⟩
set_option maxRecDepth 100000 in
theorem mul11 (w : World) : Calls Try.prog 30 #[.int .u64 1, .int .u64 1] w fun e w' => e = .returned (.tuple #[.int .u64 0, .int .u64 1]) ∧ Chg NoB w w' := by
  go_enter Try.func30, Try.ntmps30
  go_wp2_with (go_at_call 38; refine (mul64_11 _).mono ?_; rintro en w2 ⟨rfl, hc2⟩)
  go_ret2
  exact ⟨rfl, hc2⟩
/-- copy of m elements into a block that is known whole -/
theorem step_copyE {P : Program} {ops : Array Oper} {rest : List Oper} {o : Oper} {a : Act} {w : World} {Q : Exit → Act → World → Prop} (hgd : o.guard = none) (d x : Operand) (dT sT : TypeId) (hop : o.op = .call { callee := .builtin .copy, args := #[d, x], argTypes := #[dT, sT] })
    (elem size : TypeId) (hu : P.underlying dT = some (.slice elem)) (hs : (P.info? elem).map (·.size) = some size) (g off dLen dCap : Nat) (hd : a.eval d = .slice (some ⟨g, off, none⟩) dLen dCap) (ad : Addr) (m c : Nat) (hx : a.eval x = .slice (some ad) m c)
    (hm : Nat.min m dLen = m) {old : List Value} {t : TypeId} (hg : w.heap[g]? = some (.cells old.toArray t (0, 0))) (cs : List Value) (hn : cs.length = m * size) (hsrc : ∀ j v, cs[j]? = some v → w.cell? (ad.add j) = some v) (hfit : off + cs.length ≤ old.length) (h1 : ∀ v ∈ cs, v.oneCell' = true)
    (hK : ∀ w', w'.heap[g]? = some (.cells (old.take off ++ cs ++ old.drop (off + cs.length)).toArray t (0, 0)) → Chg (OneB g) w w' → w'.heap.size = w.heap.size → wpList P ops Q rest (a.put o.dst (goInt m)) w') : wpList P ops Q (o :: rest) a w := by
  have hl := run_loadCells_list (P := P) w ad cs hsrc
  have hst := run_storeCells_at P g off t cs 0 old.toArray w hg (by simpa using hfit) h1
  simp only [Nat.add_zero] at hst
  have hr : (Builtin.copy_ #[dT, sT] o.type #[.slice (some ⟨g, off, none⟩) dLen dCap, .slice (some ad) m c]).run P w = .ok (goInt m) (w.setRow g (old.take off ++ cs ++ old.drop (off + cs.length)).toArray) := by
    cases hq : P.info? elem with
    | none => simp [hq] at hs
    | some i =>
      have hi : i.size = size := by simpa [hq] using hs
      simp [Builtin.copy_, run_underlying hu, Builtin.lenOf, Builtin.firstCells, sizeOf, typeInfo, hq, hi, hm, ← hn, hl, hst]
  refine step_run (v := goInt m) (w' := w.setRow g (old.take off ++ cs ++ old.drop (off + cs.length)).toArray) (wanted_none hgd) ?_ (hK _ (setRow_heap w g _ _ t _ hg) ((Chg.refl (OneB g) w).setRow (.inl (OneB.self g)) _) (by simp))
  simp [execOp, hop, resolve, invoke, builtin, hd, hx, hr, Result.andThen]
theorem slPage : SlT Try.prog 66 58 (.agg #[.int .i64 0, .string ⟨#[]⟩]) 2 24 := ⟨Try.underlying66, by kernel_rfl, rfl, by decide⟩
theorem make1 (w : World) : (Instr.makeSlice 66 (.int .i64 1) (.int .i64 1)).run Try.prog w = .ok (.slice (some ⟨w.heap.size, 0, none⟩) 1 1) (w.alloc (.cells #[.int .i64 0, .string ⟨#[]⟩] 58)) := by
  obtain ⟨i, hi, hz0, hz1, hz2⟩ := info_parts slPage.inf
  have h := run_makeSlice (P := Try.prog) (w := w) 66 58 i _ slPage.und hi hz0 .i64 .i64 1 1 (by decide) (by decide) (by rw [hz1]; decide) (by rw [hz2]; decide) (by decide)
  rw [hz1] at h
  have e : madeCells (Value.agg #[.int .i64 0, .string ⟨#[]⟩]).cells ((1 : Int).toNat * 2) = #[.int .i64 0, .string ⟨#[]⟩] := by kernel_rfl
  rw [h, e]
  rfl
set_option maxRecDepth 100000 in
theorem repeat1 (g : Nat) (q : Pg) (w : World) (hg : w.heap[g]? = some (.cells #[.int .i64 q.at_, .string q.data] 58 (0, 0))) :
    Calls Try.prog 21 #[.slice (some ⟨g, 0, none⟩) 1 1, .int .i64 1] w fun e w' => ∃ h, e = .returned (.slice (some ⟨h, 0, none⟩) 1 1) ∧ w'.heap[h]? = some (.cells (pgsC [q]).toArray 58 (0, 0)) ∧ Chg NoB w w' ∧ w.heap.size ≤ h := by
  have HG := hid hg
  have hmk := make1
  clear hg
  go_enter Try.func21, Try.ntmps21
  go_wp2_with (first
    | (go_at_call 30; refine (mul11 _).mono ?_; rintro en w2 ⟨rfl, hc2⟩)
    | (refine step_copyE rfl _ _ _ _ rfl 58 2 Try.underlying66 (by kernel_rfl) w2.heap.size 0 1 1 rfl ⟨g, 0, none⟩ 1 1 rfl rfl (blk_new _ _) (encP q) rfl (news_blk (((hc2.alloc _).heap HG.out nob))) (by simp [encP]) (by simp [encP, Value.oneCell']) ?_; intro w3 hb3 hc3 hs3))
  have hs2 := hc2.size
  have HF : Hid (w3.heap[w2.heap.size]? = some (.cells (pgsC [q]).toArray 58 (0, 0)) ∧ Chg NoB w w3) := hid ⟨by simpa [pgsC, encP] using hb3, (hc2.alloc _).new hc3 (fun i x => by have h' : i = w2.heap.size := x; omega)⟩
  clear hb3 hc3 hs3 hmk
  go_loopw [8] (fun i wr => i = .int .i64 1 ∧ w3 = wr) (fun _ _ => 0)
  case atStart => exact ⟨rfl, rfl⟩
  case round =>
    obtain ⟨rfl, rfl⟩ := hrel
    go_wp2_with fail
    go_ret
    exact ⟨_, rfl, HF.out.1, HF.out.2, hs2⟩

theorem juC_af {l : Int} {ro rb : Nat} {pg : List Pg} {af af2 : Value} (hl : pg.length = 8) : (juC l ro pg rb af).set 19 af2 = juC l ro pg rb af2 := by
  have h := pgsC_len pg
  rw [hl] at h
  unfold juC
  simp only [List.set_cons_succ, List.cons.injEq, true_and]
  rw [List.set_append_right _ _ (by omega), h]
  rfl
theorem JAt.setaf {w w' : World} {p ro rb : Nat} {E : List JE} {s : JS} {af af2 : Value} {n : Nat} (h : JAt w p ro rb E s af n) (hc : Chg (OneB p) w w') (hb : w'.heap[p]? = some (.cells (juC s.last ro s.pg rb af2).toArray 62 (0, 0))) : JAt w' p ro rb E s af2 n := by
  refine ⟨hb, h.pt.keep hc (fun k hk x => ?_), h.es, h.mb.chg hc (fun x => h.ne (Eq.symm x)), h.ne, h.pl, h.pr, h.ct⟩
  have hkp : k = p := hk
  subst hkp
  rcases x with rfl | ⟨e, he, hk⟩
  · exact h.pt.xr (.inl rfl)
  · exact (h.pt.own e he).2.2 k (.inl rfl) hk
theorem slStr : SlT Try.prog 39 9 (.string ⟨#[]⟩) 1 16 := ⟨Try.underlying39, by kernel_rfl, rfl, by decide⟩

/-- What stands on the way through Pages. -/
structure PgI (w wr : World) (p ro rb : Nat) (E : List JE) (s : JS) (oq g n : Nat) (af : Value) : Prop where
  at_ : JAt wr p ro rb E s af n
  chg : Chg NoB w wr
  out : wr.heap[oq]? = some (.cells #[.slice (some ⟨g, 0, none⟩) 1 1] 66 (0, 0))
  pgs : wr.heap[g]? = some (.cells (pgsC [Pg.empty]).toArray 58 (0, 0))
  ne : g ≠ oq ∧ ¬ juFp p ro rb E g ∧ ¬ juFp p ro rb E oq
  ge : (∀ i, juFp p ro rb E i → w.heap.size ≤ i) ∧ w.heap.size ≤ g ∧ w.heap.size ≤ oq
theorem PgI.entry {w wr w2 : World} {p ro rb : Nat} {E E' : List JE} {s s' : JS} {oq g n n' : Nat} {af : Value} (h : PgI w wr p ro rb E s oq g n af) (hI : OwnI wr w2 p ro rb E E' s' af n') : PgI w w2 p ro rb E' s' oq g n' af :=
  ⟨hI.at_, h.chg.trans hI.chg (fun i hi => .inr (h.ge.1 i hi)), hI.chg.heap h.out h.ne.2.2, hI.chg.heap h.pgs h.ne.2.1, ⟨h.ne.1, hI.nb h.ne.2.1 (lt_of_block h.pgs), hI.nb h.ne.2.2 (lt_of_block h.out)⟩,
   ⟨fun i hi => by
      rcases hI.fp i hi with h1 | h1
      · exact h.ge.1 i h1
      · have := h.chg.size; omega, h.ge.2⟩⟩
def pagesRes (x y : Ent) : List Pg := jPuts [Pg.empty] (jGet (jEnt jNew x).2.op y.at_ y.r.txn).stand

set_option maxRecDepth 100000 in
theorem pages_calls (v : Value) (x y : Ent) (w : World) (hv : Ents w v [x, y]) (hx : x.r.okk) (hy : y.r.okk) (kx : x.r.kind = 1) (ky : y.r.kind = 3) (q : Pg) (hq : Hid (pagesRes x y = [q])) :
    Calls Try.prog 11 #[v, .int .i64 1] w fun e w' => ∃ vo, e = .returned vo ∧ Hid (w'.ownsRow w.heap.size 9 1 vo 1 [.string q.data]) ∧ Hid (Chg NoB w w') := by
  obtain ⟨a, c, rfl, h1, h2, h3⟩ := hv
  simp only [List.length_cons, List.length_nil, Nat.zero_add, Nat.reduceAdd] at h1 h2
  have H3 := hid h3
  have hps : Try.prog.underlying 59 = some (.array 8 58) := by kernel_rfl
  clear h3
  go_enter Try.func11, Try.ntmps11
  go_upto_region 5 with (first
    | (go_at_call 22; refine (empty_calls _).mono ?_; rintro en w1 ⟨rfl, hc1⟩)
    | (go_at_call 21; refine (repeat1 w1.heap.size Pg.empty _ (blk_new _ _)).mono ?_; rintro en w2 ⟨g, rfl, hg2, hc2, hl2⟩)
    | (go_at_call 16; refine (begin_calls _).mono ?_; rintro en w4 ⟨p, ro, rb, rfl, hJ4, hc4, g1, g2, g3⟩))
  have hz1 := hc1.size
  have hz2 := hc2.size
  simp only [World.size_alloc] at hz2 hl2
  have hgl := lt_of_block hg2
  have ho3 := blk_new w2 (.cells #[.slice (some ⟨g, 0, none⟩) 1 1] 66)
  have hg3 := blk_alloc hg2 (.cells #[.slice (some ⟨g, 0, none⟩) 1 1] 66)
  have hc3 : Chg NoB w (w2.alloc (.cells #[.slice (some ⟨g, 0, none⟩) 1 1] 66)) := ((hc1.alloc _).trans' hc2).alloc _
  have ho4 := hc4.heap ho3 nob
  have hg4 := hc4.heap hg3 nob
  have hz4 : w2.heap.size < w4.heap.size := lt_of_block ho4
  simp only [World.size_alloc] at g1 g2 g3
  have HJ4 := hid hJ4
  have HC4 := hid (hc3.trans' hc4)
  have HO4 := hid ho4
  have HG4 := hid hg4
  clear ho3 hg3 hc3 ho4 hg4 hJ4 hc4 hc1 hc2 hg2
  go_upto_region 6 with ((fail_if_success (fail_if_success (with_reducible change wpList _ _ _ (Oper.mk _ (.store 60 _ _) _ _ _ _ :: _) _ _))); refine step_store1 rfl rfl p 19 rfl rfl rfl rfl (cs := juC jNew.last ro jNew.pg rb (.func (.func 25) #[] #[])) HJ4.out.blk (by rw [show (juC jNew.last ro jNew.pg rb (.func (.func 25) #[] #[])).length = 20 by rfl]; decide) (by kernel_rfl) ?_; intro w5 hb5 hc5 hs5)
  rw [juC_af rfl] at hb5
  have HI : Hid (PgI w w5 p ro rb [] jNew w2.heap.size g 0 (.func (.func 23) #[] #[.pointer (some ⟨w2.heap.size, 0, none⟩)])) := hid ⟨HJ4.out.setaf hc5 hb5, HC4.out.trans hc5 (fun i hi => .inr (by have h' : i = p := hi; omega)), hc5.heap HO4.out (fun hi => by have h' : w2.heap.size = p := hi; omega), hc5.heap HG4.out (fun hi => by have h' : g = p := hi; omega), ⟨by omega, by
    rintro (h' | h' | h' | ⟨e, he, _⟩)
    · omega
    · omega
    · omega
    · simp at he, by
    rintro (h' | h' | h' | ⟨e, he, _⟩)
    · omega
    · omega
    · omega
    · simp at he⟩, ⟨by
    rintro i (h' | h' | h' | ⟨e, he, _⟩)
    · omega
    · omega
    · omega
    · simp at he, by omega, by omega⟩⟩
  obtain ⟨oq, hoq⟩ := named w2.heap.size
  rw [← hoq.out] at HI ⊢
  clear hb5 hc5 hs5 HJ4 HC4 HO4 HG4 g1 g2 g3 hz1 hz2 hl2 hgl hz4
  obtain ⟨⟨ox, s1⟩, hs1⟩ := named (jEnt jNew x)
  go_wp2_with fail
  go_loopw [27] (fun i wr => ∃ k : Nat, k ≤ 2 ∧ i = .int .i64 k ∧ Hid (∃ E, (k = 0 ∧ PgI w wr p ro rb E jNew oq g 0 (.func (.func 23) #[] #[.pointer (some ⟨oq, 0, none⟩)])) ∨ (k = 1 ∧ PgI w wr p ro rb E s1 oq g 1 (.func (.func 23) #[] #[.pointer (some ⟨oq, 0, none⟩)])) ∨
      (k = 2 ∧ Chg NoB w wr ∧ wr.heap[oq]? = some (.cells #[.slice (some ⟨g, 0, none⟩) 1 1] 66 (0, 0)) ∧ wr.heap[g]? = some (.cells (pgsC [q]).toArray 58 (0, 0))))) (fun i _ => 2 - toN i)
  case atStart => exact ⟨0, by omega, rfl, [], .inl ⟨rfl, HI.out⟩⟩
  case round =>
    obtain ⟨k, hk2, rfl, hrel⟩ := hrel
    obtain ⟨E, hE⟩ := hrel.out
    clear hrel HI
    rcases hE with ⟨rfl, hI⟩ | ⟨rfl, hI⟩ | ⟨rfl, hI⟩
    · replace hI := hid hI
      obtain ⟨x', b, off, v1, v2, hx', ha, ht, hok, hE, hbl, hone⟩ := Ents.at H3.out hI.out.chg 0 (by simp)
      obtain rfl : x = x' := hx'.out
      subst ha
      have hbE : ¬ juFp p ro rb E b := fun hj => by have := hI.out.ge.1 b hj; omega
      have HE : Hid (EtAt wr b off x v1 v2) := hid (by simpa using hE)
      clear ht hE
      go_wp2_with (go_at_call 17; refine (entry_calls p ro rb E jNew _ 0 b off x v1 v2 wr hI.out.at_ HE.out hbE hx hone (by omega) (fun h => by omega) _ _ hs1).mono ?_; rintro en w6 ⟨rfl, E', hI6⟩)
      go_roundw
      case rel => exact ⟨1, by omega, rfl, E', .inr (.inl ⟨rfl, hI.out.entry hI6.out⟩)⟩
      case measure => simp [toN]
    · replace hI := hid hI
      obtain ⟨x', b, off, v1, v2, hx', ha, ht, hok, hE, hbl, hone⟩ := Ents.at H3.out hI.out.chg 1 (by simp)
      obtain rfl : y = x' := hx'.out
      subst ha
      have hbE : ¬ juFp p ro rb E b := fun hj => by have := hI.out.ge.1 b hj; omega
      have HE : Hid (EtAt wr b (off + 12) y v1 v2) := hid (by simpa using hE)
      obtain ⟨res, hres⟩ := named ((y.r.prev == (jGet s1.op y.at_ y.r.txn).last) && decide (s1.last < y.at_))
      have hgl := hI.out.ge.2.1
      have hX : Hid (g ≠ oq ∧ g ≠ b ∧ ¬ juFp p ro rb E g ∧ ¬ juFp p ro rb E oq) := hid ⟨hI.out.ne.1, by omega, hI.out.ne.2⟩
      have hpe : Hid (∀ r ∈ [Pg.empty], r.data.size ≤ 220) := hid (fun r hr => by rw [List.mem_singleton.1 hr]; simp [Pg.empty, ByteArray.size])
      clear ht hE
      go_wp2_with (go_at_call 17; refine (entry_commit p ro rb E s1 _ 1 b (off + 12) y v1 v2 oq g 1 [Pg.empty] wr hI.out.at_ HE.out hbE hy hone (by omega) ky rfl hI.out.out hI.out.pgs rfl (by omega) hpe.out hX.out _ hres).mono ?_; rintro en w6 ⟨rfl, hI6⟩)
      go_roundw
      case rel =>
        refine ⟨2, by omega, rfl, E, .inr (.inr ⟨rfl, hI.out.chg.trans hI6.out.2 (fun i hi => .inr (hi.elim (hI.out.ge.1 i) (fun h => by have h' : i = g := h; omega))), hI6.out.2.heap hI.out.out (fun h => h.elim hI.out.ne.2.2 (fun h => hI.out.ne.1 h.symm)), ?_⟩)⟩
        have := hI6.out.1
        have h9 := hq.out
        unfold pagesRes at h9
        rw [← hs1.out] at h9
        rw [h9] at this
        exact this
      case measure => simp [toN]
    · have HI := hid hI
      obtain ⟨hc, ho, hg⟩ := hI
      rw [show (((2 : Nat) : Int)) = 2 from rfl]
      have o0 : wr.cell? ⟨oq, 0, none⟩ = some (.slice (some ⟨g, 0, none⟩) 1 1) := by rw [cell_blk ho]; rfl
      clear hc ho hg
      go_wp2_with fail
      obtain ⟨bz, hbz⟩ := named wr.heap.size
      go_loopw [4, 38] (fun o i wr2 => Hid (Chg NoB wr wr2) ∧ ((i = .int .i64 0 ∧ o = .slice none 0 0) ∨ (i = .int .i64 1 ∧ Hid (wr2.ownsRow bz 9 1 o 1 [.string q.data])))) (fun _ i _ => 1 - toN i)
      case atStart => exact ⟨Chg.refl _ _, .inl ⟨rfl, rfl⟩⟩
      case round =>
        obtain ⟨hc2, ⟨rfl, rfl⟩ | ⟨rfl, hO⟩⟩ := hrel
        · have hg2 := hc2.out.heap HI.out.2.2 nob
          have d0 : wr.cell? ⟨g, 0, none⟩ = some (.int .i64 q.at_) := by rw [cell_blk hg2]; rfl
          have d1 : wr.cell? ⟨g, 1, none⟩ = some (.string q.data) := by rw [cell_blk hg2]; rfl
          have hz : bz ≤ wr.heap.size := by rw [hbz.out]; exact hc2.out.size
          clear hg2
          go_wp2_with (at_builtin; refine step_app1 slStr rfl _ _ rfl (World.ownsRow_nil _ bz _ _) rfl (wr.heap.size + 1) [.string q.data] rfl (by rw [show wr.heap.size + 1 = (wr.alloc (.cells #[.int .i64 q.at_, .string q.data] 58)).heap.size by simp]; exact blk_new _ _) rfl rfl (by simp [Value.oneCell']) (by decide) (by decide) (by simp; omega) ?_; intro v5 w5 hv5 hc5 hvo hnil)
          obtain ⟨ao, co, rfl⟩ := ownsForm hv5
          have HV := hid hv5
          have HC := hid ((((hc2.out.alloc (.cells #[.int .i64 q.at_, .string q.data] 58)).alloc (.cells #[.string q.data] 9)).trans hc5 (fun i hi => by simp [OwnB, Value.ownBlock] at hi)))
          clear hv5 hc5 hvo hnil d0 d1
          go_wp2_with fail
          go_roundw
          case rel => exact ⟨HC, .inr ⟨rfl, HV⟩⟩
          case measure => simp [toN]
        · obtain ⟨ao, co, rfl⟩ := ownsForm hO.out
          go_wp2_with fail
          go_ret
          exact ⟨_, rfl, hid (Go.World.ownsRow.mono hO.out (by rw [hbz.out]; exact HI.out.1.size)), hid (HI.out.1.trans' hc2.out)⟩
end Go.Proofs.Ytobmaipjbepphaa
