import Derived.Test.YtghklbflbodajaaB1
import Derived.Test.YtghklbflbodajaaRdo
import Derived.Test.YtghklbflbodajaaWk
import Derived.Test.YtghklbflbodajaaA7
namespace Go.Proofs.Ytghklbflbodajaa
open Go.RowKit Go.ChangeMaps Go.MapKept
attribute [local go_sem] Go.Oper.rdK
set_option linter.unusedVariables false
set_option linter.unusedSimpArgs false
set_option linter.unnecessarySimpa false
set_option maxHeartbeats 8000000

set_option maxRecDepth 100000 in
theorem rollf_calls (x y : Ent) (v1 v2 u1 u2 : Value) (w : World) (r : Int) (hr : Hid (r = cmpI x.at_ y.at_)) :
    Calls Try.prog 39 #[.agg #[.int .i64 x.at_, .int .i64 x.r.kind, .int .i64 x.r.txn, .int .i64 x.r.page, .int .i64 x.r.off, .int .i64 x.r.prev, .int .i64 x.r.next, .int .i64 x.r.beg, .string x.r.before, .string x.r.after, v1, v2], .agg #[.int .i64 y.at_, .int .i64 y.r.kind, .int .i64 y.r.txn, .int .i64 y.r.page, .int .i64 y.r.off, .int .i64 y.r.prev, .int .i64 y.r.next, .int .i64 y.r.beg, .string y.r.before, .string y.r.after, u1, u2]] w fun e w' => e = .returned (.int .i64 r) ∧ Chg NoB w w' := by
  have h1 : (w.alloc (.cells #[.int .i64 x.at_, .int .i64 x.r.kind, .int .i64 x.r.txn, .int .i64 x.r.page, .int .i64 x.r.off, .int .i64 x.r.prev, .int .i64 x.r.next, .int .i64 x.r.beg, .string x.r.before, .string x.r.after, v1, v2] 80)).cell? ⟨w.heap.size, 0, none⟩ = some (.int .i64 x.at_) := by rw [cell_blk (blk_new _ _)]; rfl
  go_enter Try.func39, Try.ntmps39
  go_wp2_with (go_at_call 40; refine (cmp_calls _ _ _ _ hr).mono ?_; rintro e w' ⟨rfl, rfl⟩)
  go_ret
  exact ⟨rfl, ((Chg.refl _ _).alloc _).alloc _⟩

/-- Places don't fall. -/
def leB (l : List Ent) : Prop := ∀ i (h : i + 1 < l.length), l[i].at_ ≤ l[i + 1].at_
set_option maxRecDepth 100000 in
theorem sorted_calls (v : Value) (l : List Ent) (w : World) (hv : Ents w v l) (hl : l.length ≤ 1000000) (res : Bool) (hres : Hid (res = true ↔ leB l)) :
    Calls Try.prog 38 #[v, .func (.func 39) #[] #[]] w fun e w' => e = .returned (.bool res) ∧ Chg NoB w w' := by
  obtain ⟨a, c, rfl, h1, h2, h3⟩ := hv
  have H3 := hid h3
  clear h3
  go_enter Try.func38, Try.ntmps38
  go_wp2_with fail
  go_loopw [5] (fun i wr => ∃ k : Nat, k ≤ l.length ∧ i = .int .i64 ((k : Int) - 1) ∧ Hid ((∀ j (h : j + 1 < l.length), k ≤ j + 1 → l[j].at_ ≤ l[j + 1].at_) ∧ Chg NoB w wr)) (fun i _ => (intOf i).toNat)
  case atStart => exact ⟨l.length, by omega, rfl, hid ⟨fun j h hk => by omega, Chg.refl _ _⟩⟩
  case round =>
    obtain ⟨k, hk, rfl, hI⟩ := hrel
    by_cases hlt : 2 ≤ k
    · obtain ⟨m, rfl⟩ : ∃ m, k = m + 2 := ⟨k - 2, by omega⟩
      have e1 : ((m + 2 : Nat) : Int) - 1 = (m : Int) + 1 := by omega
      rw [e1]
      obtain ⟨x, b, off, v1, v2, hx, rfl, ht, hokx, hE, hbl, hone⟩ := Ents.at H3.out hI.out.2 (m + 1) (by omega)
      obtain ⟨y, b', off', u1, u2, hy, e', ht', hoky, hE', hbl', hone'⟩ := Ents.at H3.out hI.out.2 m (by omega)
      cases e'
      obtain ⟨c0, q0, q1, q2, q3, q4, q5, q6, q7, q8, q9, q10⟩ := hE.cells
      obtain ⟨c0', q0', q1', q2', q3', q4', q5', q6', q7', q8', q9', q10'⟩ := hE'.cells
      clear hE hE'
      obtain ⟨⟨a1, n1, rfl, _, _, _⟩, ⟨a2, n2, rfl, _, _, _⟩⟩ := ht
      obtain ⟨⟨a3, n3, rfl, _, _, _⟩, ⟨a4, n4, rfl, _, _, _⟩⟩ := ht'
      obtain ⟨r, hr⟩ := named (cmpI x.at_ y.at_)
      have hg : ((m : Int) + 1 > 0) := by omega
      have hml : (m : Int) + 1 < (l.length : Int) := by omega
      have hml0 : ((m : Nat) : Int) < (l.length : Int) := by omega
      have hm0 : (0 : Int) ≤ (m : Int) + 1 := by omega
      have hm1 : (m : Int) + 1 - 1 = (m : Int) := by omega
      have hwm : IntKind.i64.wrap (m : Int) = (m : Int) := wrap_small (by omega) (by omega)
      go_upto_region 4 with fail
      refine wp_region_ord 12 (.rd 0 (.rd 1 (.rd 2 (.rd 3 (.rd 4 (.rd 5 (.rd 6 (.rd 7 (.rd 8 (.rd 9 (.one 10 (.rd 11 (.done))))))))))))) (Same wr) (by kernel_rfl) (by kernel_rfl) (by kernel_rfl) (by kernel_rfl) (by kernel_rfl) (fun _ _ d _ _ h => by cases d <;> exact h) (Same.of (Chg.refl _ _).drew) (fun hS0 => ?_)
      refine wpOrd_rd rfl rfl (by first | decide | simp) (by assumption) (fun w' hw' K hK => by ((try unfold Same at hw'); (try go_split_ands); go_simp; exact hK)) ?_
      refine wpOrd_rd rfl rfl (by first | decide | simp) (by assumption) (fun w' hw' K hK => by ((try unfold Same at hw'); (try go_split_ands); go_simp; exact hK)) ?_
      refine wpOrd_rd rfl rfl (by first | decide | simp) (by assumption) (fun w' hw' K hK => by ((try unfold Same at hw'); (try go_split_ands); go_simp; exact hK)) ?_
      refine wpOrd_rd rfl rfl (by first | decide | simp) (by assumption) (fun w' hw' K hK => by ((try unfold Same at hw'); (try go_split_ands); go_simp; exact hK)) ?_
      refine wpOrd_rd rfl rfl (by first | decide | simp) (by assumption) (fun w' hw' K hK => by ((try unfold Same at hw'); (try go_split_ands); go_simp; exact hK)) ?_
      refine wpOrd_rd rfl rfl (by first | decide | simp) (by assumption) (fun w' hw' K hK => by ((try unfold Same at hw'); (try go_split_ands); go_simp; exact hK)) ?_
      refine wpOrd_rd rfl rfl (by first | decide | simp) (by assumption) (fun w' hw' K hK => by ((try unfold Same at hw'); (try go_split_ands); go_simp; exact hK)) ?_
      refine wpOrd_rd rfl rfl (by first | decide | simp) (by assumption) (fun w' hw' K hK => by ((try unfold Same at hw'); (try go_split_ands); go_simp; exact hK)) ?_
      refine wpOrd_rd rfl rfl (by first | decide | simp) (by assumption) (fun w' hw' K hK => by ((try unfold Same at hw'); (try go_split_ands); go_simp; exact hK)) ?_
      refine wpOrd_rd rfl rfl (by first | decide | simp) (by assumption) (fun w' hw' K hK => by ((try unfold Same at hw'); (try go_split_ands); go_simp; exact hK)) ?_
      refine wpOrd_do rfl ?_
      (first | refine wpList_plain rfl (fun K hK => ?_) | refine wpList_step (fun K hK => ?_))
      go_simp
      ((with_reducible refine (rollf_calls x y _ _ _ _ _ r hr).mono ?_); rintro e w2 ⟨rfl, hc2⟩)
      refine hK _ _ ?_
      clear hK K
      (try dsimp only [Act.put])
      refine wpOrd_done (Same.of ((Chg.refl NoB wr).drew.trans' hc2)) (fun hS1 => ?_)
      refine wpOrd_rd rfl rfl (by first | decide | simp) (by assumption) (fun w' hw' K hK => by ((try unfold Same at hw'); (try go_split_ands); go_simp; exact hK)) ?_
      refine wpOrd_nil ?_
      have HC2 := hid (hI.out.2.drew.trans' hc2)
      clear hc2
      by_cases hxy : x.at_ < y.at_
      · have hr1 : r = -1 := by rw [hr.out]; simp [cmpI, hxy]
        subst hr1
        go_wp2_with fail
        go_ret
        refine ⟨ret_bool (Eq.symm ?_), HC2.out⟩
        rw [Bool.eq_false_iff]
        intro h
        have := hres.out.1 h m (by omega)
        rw [hx.out, hy.out] at this
        omega
      · have hr1 : ¬ r < 0 := by rw [hr.out]; unfold cmpI; rw [if_neg hxy]; split <;> omega
        go_wp2_with fail
        go_roundw
        case rel =>
          refine ⟨m + 1, by omega, by go_num, hid ⟨fun j h hj => ?_, HC2.out⟩⟩
          by_cases hjm : j = m
          · subst hjm
            rw [hx.out, hy.out]
            omega
          · exact hI.out.1 j h (by omega)
        case measure => simp [intOf]
    · have hno : ¬ ((k : Int) - 1 > 0) := by omega
      go_wp2_with fail
      go_ret
      refine ⟨ret_bool (Eq.symm ?_), hI.out.2⟩
      rw [hres.out]
      exact fun i h => hI.out.1 i h (by omega)

/-! ### Roll -/
theorem own_two' {B : Nat} {wr w2 : World} {e : TypeId} {size n : Nat} {v : Value} {xs : List Value} (hO : wr.ownsRow B e size v n xs) (o : Obj) (hc2 : Chg (OneB wr.heap.size) (wr.alloc o) w2) (o2 : Obj) : (w2.alloc o2).ownsRow B e size v n xs :=
  ownsRow.chg (ownsRow.chg (ownsRow.chg hO ((Chg.refl NoB wr).alloc _) (fun _ _ => nob)) hc2 (fun k hk => fun x => by have h' : k = wr.heap.size := x; have := (OwnB.ge hO k hk).2; omega)) ((Chg.refl NoB w2).alloc _) (fun _ _ => nob)

theorem rises_split {l : List Ent} : risesB l = true ↔ leB l ∧ ∀ i (h : i + 1 < l.length), l[i].at_ ≠ l[i + 1].at_ := by
  rw [risesB_iff]
  constructor
  · exact fun h => ⟨fun i hi => by have := h i hi; omega, fun i hi => by have := h i hi; omega⟩
  · rintro ⟨h1, h2⟩ i hi
    have := h1 i hi
    have := h2 i hi
    omega
def bkPgs (L : List Tk) : List Pg := L.map (·.p)
/-- What Roll answers: the pages, and the error. -/
def bkRoll (L : List Tk) (l : List Ent) : List Pg × Int := if bkWhole L = true then (if risesB l = true then (rdPages l (bkFrom L) (bkPgs L), 0) else ([], 3)) else ([], 11)
/-- A slice of pages that lies at the head of a block. -/
def PgB (B : Nat) (w : World) (v : Value) (l : List Pg) : Prop := (l = [] ∧ v = .slice none 0 0) ∨ ∃ g, B ≤ g ∧ v = .slice (some ⟨g, 0, none⟩) l.length l.length ∧ w.heap[g]? = some (.cells (pgsC l).toArray 40 (0, 0))
set_option maxRecDepth 100000 in
theorem roll_nil (v : Value) (w : World) : Calls Try.prog 17 #[.pointer none, v] w fun e w' => e = .returned (.tuple #[.slice none 0 0, .int .i64 10]) ∧ Chg NoB w w' := by
  go_enter Try.func17, Try.ntmps17
  go_wp2_with (go_at_call 29; refine (bk_ready_nil _).mono ?_; rintro e w1 ⟨rfl, hc1⟩)
  go_ret2
  exact ⟨rfl, hc1⟩
theorem bkFrom_fits {L : List Tk} (h : tkOk L) : 0 ≤ bkFrom L ∧ bkFrom L ≤ 2147483647 := by
  have := lst_fits h L.length
  unfold lst at this
  rw [List.take_length] at this
  have e : bkLeast L = L.foldl (fun m x => if x.has && (decide (m < 0) || decide (x.at_ < m)) then x.at_ else m) (-1) := rfl
  unfold bkFrom
  omega
set_option maxRecDepth 100000 in
theorem roll_calls (p g : Nat) (L : List Tk) (v : Value) (l : List Ent) (w : World) (h : BkAt w p g L) (hv : Ents w v l) (hl : l.length ≤ 1000000) (hok : ∀ x ∈ l, x.r.okk) (res : List Pg × Int) (hres : Hid (res = bkRoll L l)) :
    Calls Try.prog 17 #[.pointer (some ⟨p, 0, none⟩), v] w fun e w' => ∃ v', e = .returned (.tuple #[v', .int .i64 res.2]) ∧ Hid (PgB w.heap.size w' v' res.1) ∧ Hid (Chg NoB w w') := by
  have HB := hid h
  have HV := hid hv
  obtain ⟨rd, hrd⟩ := named (bkReady L)
  have h8 := h.len
  have hs := h.sl
  have hr := hres.out
  unfold bkRoll at hr
  clear h
  by_cases hw : bkWhole L = true
  · have hrd0 : rd = 0 := by rw [hrd.out]; unfold bkReady; rw [if_pos hw]
    subst hrd0
    rw [if_pos hw] at hr
    obtain ⟨sb, hsb⟩ : ∃ sb : Bool, Hid (sb = true ↔ leB l) := by
      by_cases h : leB l
      · exact ⟨true, hid (by simp [h])⟩
      · exact ⟨false, hid (by simp [h])⟩
    have hvf : ∃ a c, v = .slice a l.length c := by obtain ⟨a, c, e, _⟩ := hv; exact ⟨a, c, e⟩
    obtain ⟨a, c, rfl⟩ := hvf
    clear hv
    cases sb
    · have hrs : risesB l = false := by
        rw [Bool.eq_false_iff]
        intro h
        exact Bool.false_ne_true (hsb.out.2 (rises_split.1 h).1)
      rw [hrs, if_neg (by decide)] at hr
      subst hr
      go_enter Try.func17, Try.ntmps17
      go_wp2_with (first
        | (go_at_call 29; refine (bk_ready_calls p g L _ HB.out 0 hrd).mono ?_; rintro e w1 ⟨rfl, hc1⟩)
        | (go_at_call 38; refine (sorted_calls _ l _ (HV.out.mono hc1) hl false hsb).mono ?_; rintro e w2 ⟨rfl, hc2⟩))
      go_ret2
      exact ⟨_, rfl, hid (.inl ⟨rfl, rfl⟩), hid (hc1.trans' hc2)⟩
    · have hle := hsb.out.1 rfl
      have HLE := hid hle
      clear hle
      go_enter Try.func17, Try.ntmps17
      go_upto_region 6 with (first
        | (go_at_call 29; refine (bk_ready_calls p g L _ HB.out 0 hrd).mono ?_; rintro e w1 ⟨rfl, hc1⟩)
        | (go_at_call 38; refine (sorted_calls _ l _ (HV.out.mono hc1) hl true (hid ⟨fun _ => HLE.out, fun _ => rfl⟩)).mono ?_; rintro e w2 ⟨rfl, hc2⟩))
      have HC2 := hid (hc1.trans' hc2)
      clear hc1 hc2 hs
      have hs := HC2.out.cell HB.out.sl nob
      have HG0 := hid (lt_of_block HB.out.row)
      go_upto_region 8 with fail
      go_loopw [7, 24] (fun pv i wr => ∃ k : Nat, k ≤ L.length ∧ i = .int .i64 k ∧ Hid (wr.ownsRow w.heap.size 40 2 pv k (pgsC (bkPgs (L.take k))) ∧ Chg NoB w wr)) (fun _ i _ => L.length - (intOf i).toNat)
      case atStart => exact ⟨0, by omega, rfl, hid ⟨World.ownsRow_nil _ _ _ _, HC2.out⟩⟩
      case round =>
        obtain ⟨k, hk, rfl, hI⟩ := hrel
        by_cases hlt : k < L.length
        · obtain ⟨x, hx⟩ := named L[k]
          obtain ⟨g0, g1, g2, g3⟩ := (HB.out.mono hI.out.2).cell hlt hx.out.symm
          have hcs : Hid (∀ j v, (encTk x)[j]? = some v → wr.cell? ⟨g, k * 4 + j, none⟩ = some v) := hid (by
            intro j v hv
            match j, hv with
            | 0, hv => cases hv; exact g0
            | 1, hv => cases hv; exact g1
            | 2, hv => cases hv; exact g2
            | 3, hv => cases hv; exact g3)
          have hT : Hid (pgsC (bkPgs (L.take (k + 1))) = pgsC (bkPgs (L.take k)) ++ encP x.p) := hid (by rw [take_snoc' hlt, ← hx.out]; simp only [bkPgs, pgsC, List.map_append, List.flatMap_append, List.map_cons, List.map_nil, List.flatMap_cons, List.flatMap_nil, List.append_nil])
          have hO := hid hI.out.1
          have hC := hid hI.out.2
          obtain ⟨ao, co, rfl⟩ := ownsForm hO.out
          clear g0 g1 g2 g3 hI
          go_wp2_with (first
            | ((fail_if_success (fail_if_success (with_reducible change wpList _ _ _ (Oper.mk _ (.load 91 _) _ _ _ _ :: _) _ _))); refine step_loadAt rfl rfl g (k * 4) rfl (encTk x) hcs.out Try.underlying91 (by kernel_rfl) ?_)
            | ((fail_if_success (fail_if_success (with_reducible change wpList _ _ _ (Oper.mk _ (.store 91 _ _) _ _ _ _ :: _) _ _))); refine step_storeRow rfl rfl wr.heap.size rfl rfl (blk_new _ _) (by kernel_rfl) rfl (by simp [encTk, Value.oneCell']) ?_; intro w2 hb2 hc2 hs2; have hcp : ∀ j v, (encP x.p)[j]? = some v → w2.cell? ⟨wr.heap.size, 1 + j, none⟩ = some v := (by
                intro j v hv
                rw [cell_blk hb2]
                match j, hv with
                | 0, hv => cases hv; rfl
                | 1, hv => cases hv; rfl))
            | ((fail_if_success (fail_if_success (with_reducible change wpList _ _ _ (Oper.mk _ (.load 40 _) _ _ _ _ :: _) _ _))); refine step_loadAt rfl rfl wr.heap.size 1 rfl [.int .i64 x.p.at_, .string x.p.data] hcp Try.underlying40 (by kernel_rfl) ?_)
            | (at_builtin; refine step_app1 slPage rfl _ _ rfl (own_two' hO.out _ hc2 _) rfl (wr.heap.size + 1) (encP x.p) rfl (by rw [show wr.heap.size + 1 = w2.heap.size by rw [hs2]; simp]; exact blk_new _ _) rfl rfl (by simp [encP, Value.oneCell']) (by omega) (by unfold maxLen; omega) (by have := hC.out.size; simp at hs2; simp; omega) ?_; intro v5 w5 hv5 hc5 hvo hnil))
          obtain ⟨a5, n5, rfl⟩ := ownsForm hv5
          have HV5 := hid hv5
          have hcW : Chg NoB w w2 := (hC.out.alloc _).new hc2 (fun i x => by have h' : i = wr.heap.size := x; have := hC.out.size; omega)
          have HC := hid ((hcW.alloc (.cells (encP x.p).toArray 40)).trans hc5 (fun i hi => .inr (OwnB.ge hO.out i hi).1))
          clear hv5 hc5 hvo hnil
          go_wp2_with fail
          go_roundw
          case rel => exact ⟨k + 1, by omega, by go_num, hid ⟨by rw [hT.out]; exact HV5.out, HC.out⟩⟩
          case measure => simp [intOf]; omega
        · obtain rfl : L.length = k := by omega
          have hO' := hI.out.1
          rw [List.take_length] at hO'
          have hO := hid hO'
          clear hO'
          have hC := hid hI.out.2
          clear hI
          obtain ⟨ao, co, rfl⟩ := ownsForm hO.out
          obtain ⟨fr, hfr⟩ := named (bkFrom L)
          have hfr2 := bkFrom_fits HB.out.ok
          rw [← hfr.out] at hfr2
          rename World => wq
          go_upto_region 13 with fail
          go_loopw [36] (fun i wr => ∃ k : Nat, k ≤ l.length ∧ i = .int .i64 k ∧ Hid ((∀ j (h : j + 1 < l.length), j + 1 < k → l[j].at_ ≠ l[j + 1].at_) ∧ Chg NoB wq wr)) (fun i _ => l.length - (intOf i).toNat)
          case atStart => exact ⟨0, by omega, rfl, hid ⟨fun j h hj => by omega, Chg.refl _ _⟩⟩
          case round =>
            obtain ⟨k, hk, rfl, hJ⟩ := hrel
            have hp1 := hJ.out.2.cell (hC.out.cell HB.out.sl nob) nob
            by_cases hlt2 : k < l.length
            · cases k with
              | zero =>
                go_wp2_with fail
                go_quiet (fail)
                go_wp2_with fail
                go_roundw
                case rel => exact ⟨1, by omega, by go_num, hid ⟨fun j h hj => by omega, hJ.out.2.drewN _⟩⟩
                case measure => simp [intOf]; omega
              | succ k =>
                have hVf := hid HV.out
                obtain ⟨a', c', hvv, _, _, h3⟩ := HV.out
                cases hvv
                obtain ⟨x, b, off, v1, v2, hx, rfl, ht, hokx, hE, hbl, hone⟩ := Ents.at h3 (hC.out.trans' hJ.out.2) k (by omega)
                obtain ⟨y, b', off', u1, u2, hy, e', ht', hoky, hE', hbl', hone'⟩ := Ents.at h3 (hC.out.trans' hJ.out.2) (k + 1) hlt2
                cases e'
                have g0 := hE.1
                have g0' := hE'.1
                have hw1 : IntKind.i64.wrap (k : Int) = (k : Int) := wrap_small (by omega) (by omega)
                have hk1 : k < l.length := by omega
                clear hE hE' ht ht' h3
                by_cases hxy : x.at_ = y.at_
                · have hrs : risesB l = false := by
                    rw [Bool.eq_false_iff]
                    intro h
                    have := risesB_iff.1 h k hlt2
                    rw [hx.out, hy.out] at this
                    omega
                  rw [hrs, if_neg (by decide)] at hr
                  subst hr
                  go_wp2_with fail
                  go_quiet (fail)
                  go_wp2_with fail
                  go_ret2
                  exact ⟨_, rfl, hid (.inl ⟨rfl, rfl⟩), hid (hC.out.trans' (hJ.out.2.drewN _))⟩
                · go_wp2_with fail
                  go_quiet (fail)
                  go_wp2_with fail
                  go_roundw
                  case rel =>
                    refine ⟨k + 2, by omega, by go_num, hid ⟨fun j h hj => ?_, hJ.out.2.drewN _⟩⟩
                    by_cases hjk : j = k
                    · subst hjk
                      rw [hx.out, hy.out]
                      exact hxy
                    · exact hJ.out.1 j h (by omega)
                  case measure => simp [intOf]; omega
            · obtain rfl : k = l.length := by omega
              have hrs : risesB l = true := rises_split.2 ⟨HLE.out, fun i h => hJ.out.1 i h h⟩
              rw [hrs, if_pos rfl, ← hfr.out] at hr
              have HC9 := hid (hC.out.trans' hJ.out.2)
              have hO9 := ownsRow.chg hO.out hJ.out.2 (fun _ _ => nob)
              have hR9 : Hid (Rd wr 2 encP (.slice ao L.length co) (bkPgs L)) := hid (Rd.of_own (v := .slice ao L.length co) (l := bkPgs L) (enc := encP) (fun _ => rfl) (by rw [show (bkPgs L).length = L.length by simp [bkPgs]]; exact hO9))
              have hbl : (bkPgs L).length = L.length := by simp [bkPgs]
              have HBL := hid hbl
              have hbs : ∀ q ∈ bkPgs L, q.data.size ≤ 220 := by
                intro q hq
                obtain ⟨x, hx, rfl⟩ := List.mem_map.1 hq
                exact (HB.out.ok x hx).2.2
              obtain ⟨rs, hrs2⟩ := named (rdPages l fr (bkPgs L))
              rw [← hrs2.out] at hr
              subst hr
              clear hp1 hO9 hbl
              go_wp2_with (first
                | (go_at_call 16; refine (bkFrom_calls p g L _ (HB.out.mono HC9.out) fr hfr).mono ?_; rintro e w6 ⟨rfl, hc6⟩)
                | (go_at_call 41; refine (redo_calls _ l fr _ (bkPgs L) _ (HV.out.mono (HC9.out.trans' hc6)) hl hok (hR9.out.keep hc6 (fun _ _ _ => nob)) (by rw [HBL.out]; omega) (by rw [HBL.out]; omega) hbs (by unfold fits; omega) rs hrs2).mono ?_; rintro e w7 ⟨g7, rfl, hb7, hc7, hg7⟩))
              go_ret2
              refine ⟨.slice (some ⟨g7, 0, none⟩) (bkPgs L).length (bkPgs L).length, rfl, hid (.inr ⟨g7, by have := (HC9.out.trans' hc6).size; omega, ?_, hb7.out⟩), hid ((HC9.out.trans' hc6).trans' hc7.out)⟩
              rw [hrs2.out, rdPages_len]
  · have hrd0 : rd = 11 := by rw [hrd.out]; unfold bkReady; rw [if_neg hw]
    subst hrd0
    rw [if_neg hw] at hr
    subst hr
    go_enter Try.func17, Try.ntmps17
    go_wp2_with (go_at_call 29; refine (bk_ready_calls p g L _ HB.out 11 hrd).mono ?_; rintro e w1 ⟨rfl, hc1⟩)
    go_ret2
    exact ⟨_, rfl, hid (.inl ⟨rfl, rfl⟩), hid hc1⟩
end Go.Proofs.Ytghklbflbodajaa
