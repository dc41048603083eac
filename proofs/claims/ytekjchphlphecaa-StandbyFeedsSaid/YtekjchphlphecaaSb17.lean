import Derived.Test.YtekjchphlphecaaSb16
import Derived.Test.YtekjchphlphecaaB1
import Derived.Test.YtekjchphlphecaaSb8
namespace Go.Proofs.Ytekjchphlphecaa
open Go.RowKit Go.ChangeMaps Go.MapKept
attribute [local go_sem] Go.Oper.rdK
set_option linter.unusedVariables false
set_option linter.unusedSimpArgs false
set_option maxHeartbeats 8000000

theorem pgsC_snoc (l : List Pg) (p : Pg) : pgsC (l ++ [p]) = pgsC l ++ encP p := by simp [pgsC]
theorem rep_size (n : Nat) : ∀ q ∈ List.replicate n Pg.empty, q.data.size ≤ 220 := fun q hq => by
  rw [List.eq_of_mem_replicate hq]; simp [Pg.empty, ByteArray.size]
/-- A row of one's own, and what its block has behind it. -/
theorem own_post {w : World} {B n size : Nat} {e : TypeId} {v : Value} {xs : List Value} (h : w.ownsRow B e size v n xs) (hn : 0 < n) :
    ∃ g cap post, v = .slice (some ⟨g, 0, none⟩) n cap ∧ B ≤ g ∧ w.heap[g]? = some (.cells (xs ++ post).toArray e (0, 0)) ∧ n ≤ cap ∧ ∀ (w' : World) (ys : List Value), ys.length = xs.length → w'.heap[g]? = some (.cells (ys ++ post).toArray e (0, 0)) → w'.ownsRow B e size v n ys := by
  obtain ⟨hl, h2⟩ := h
  rcases h2 with ⟨rfl, h0⟩ | ⟨g, cap, cur, rfl, hb, hg, hn1, hm, hs, ht⟩
  · omega
  · refine ⟨g, cap, cur.toList.drop (n * size), rfl, hb, ?_, hn1, fun w' ys hy hg' => ⟨by omega, .inr ⟨g, cap, _, rfl, hb, hg', hn1, hm, ?_, ?_⟩⟩⟩
    · rw [hg, ← ht, List.take_append_drop]
    · have h3 := congrArg List.length ht
      rw [List.length_take] at h3
      simp only [List.size_toArray, List.length_append, List.length_drop]
      simp at h3 ⊢
      omega
    · rw [List.toList_toArray, List.take_left' (by omega)]

set_option maxRecDepth 100000 in
theorem rUpto_calls (w0 : World) (p : Nat) (pv lv : Value) (P : List Pg) (L : List Ent) (w : World) (h : RfAt w0 w p pv lv P L) (hl : L.length ≤ 100000000) (res : Int) (hres : Hid (res = sUpto L)) :
    Calls Try.prog 14 #[.pointer (some ⟨p, 0, none⟩)] w fun e w' => e = .returned (.int .i64 res) ∧ Chg NoB w w' := by
  obtain ⟨c0, c1⟩ := h.cells
  obtain ⟨a, c, rfl, h1, h2, h3⟩ := h.lst.ents
  have H3 := hid h3
  clear h3 c0
  rcases snoc_cases L with hL | ⟨ys, y, hL⟩
  · have hr : res = 0 := by rw [hres.out, hL]; rfl
    subst hr
    rw [hL] at c1 h1
    simp only [List.length_nil] at c1 h1
    clear hres hL h hl h2
    go_enter Try.func14, Try.ntmps14
    go_wp2
    go_ret
    exact ⟨rfl, Chg.refl _ _⟩
  · have hlen : L.length = ys.length + 1 := by rw [hL]; simp
    have hr : res = y.at_ := by rw [hres.out, hL]; simp [sUpto]
    subst hr
    have hy : L[ys.length]'(by omega) = y := by simp [hL]
    obtain ⟨x, b, off, v1, v2, hx, rfl, ht, hok, hE, hbl, hone⟩ := Ents.at H3.out (Chg.refl NoB w) ys.length (by omega)
    rw [hy] at hx
    have hxe := hx.out
    subst hxe
    have e0 := hE.cells.1
    obtain ⟨m, hm⟩ := named ys.length
    rw [← hm.out] at e0 hlen
    rw [hlen] at c1 h1 hl
    have hwm : IntKind.i64.wrap (m : Int) = (m : Int) := by rw [IntKind.wrap_i64]; omega
    have hm0 : (0 : Int) ≤ (m : Int) := by omega
    have hm1 : (m : Int) < (m : Int) + 1 := by omega
    clear hE H3 h hL hy hlen hres hx h2 ht
    go_enter Try.func14, Try.ntmps14
    go_upto_region 3 with fail
    refine wp_region_ord 14 (.rd 0 (.rd 1 (.rd 2 (.rd 3 (.rd 4 (.rd 5 (.rd 6 (.rd 7 (.rd 8 (.rd 9 (.rd 10 (.rd 11 (.rd 12 (.rd 13 (.done))))))))))))))) (Same w) (by kernel_rfl) (by kernel_rfl) (by kernel_rfl) (by kernel_rfl) (by kernel_rfl) (fun _ _ d _ _ h => by cases d <;> exact h) (Same.of (Chg.refl _ _).drew) (fun hS0 => ?_)
    refine wpOrd_rd rfl rfl (by first | decide | simp) (by assumption) (fun w' hw' K hK => by ((try unfold Same at hw'); (try go_split_ands); go_simp; exact hK)) ?_
    refine wpOrd_rd rfl rfl (by first | decide | simp) (by assumption) (fun w' hw' K hK => by ((try unfold Same at hw'); (try go_split_ands); go_simp; exact hK)) ?_
    refine wpOrd_rd rfl rfl (by first | decide | simp) (by assumption) (fun w' hw' K hK => by ((try unfold Same at hw'); (try go_split_ands); go_simp; exact hK)) ?_
    refine wpOrd_rd rfl rfl (by first | decide | simp) (by assumption) (fun w' hw' K hK => by ((try unfold Same at hw'); (try go_split_ands); go_simp; exact hK)) ?_
    refine wpOrd_rd rfl rfl (by first | decide | simp) (by assumption) (fun w' hw' K hK => by ((try unfold Same at hw'); (try go_split_ands); go_simp; exact hK)) ?_
    refine wpOrd_rd rfl rfl (by first | decide | simp) (by assumption) (fun w' hw' K hK => by ((try unfold Same at hw'); (try go_split_ands); go_simp; exact hK)) ?_
    refine wpOrd_rd rfl rfl (by first | decide | simp) (by assumption) (fun w' hw' K hK => by ((try unfold Same at hw'); (try go_split_ands); go_simp; exact hK)) ?_
    refine wpOrd_rd rfl rfl (by first | decide | simp) (by assumption) (fun w' hw' K hK => by ((try unfold Same at hw'); (try go_split_ands); go_simp; exact hK)) ?_
    refine wpOrd_rd rfl rfl (by first | decide | simp) (by assumption) (fun w' hw' K hK => by ((try unfold Same at hw'); (try go_split_ands); go_simp; exact hK)) ?_
    refine wpOrd_rd rfl rfl (by first | decide | simp) (by assumption) (fun w' hw' K hK => by ((try unfold Same at hw'); (try go_split_ands); go_simp; exact hK)) ?_
    refine wpOrd_rd rfl rfl (by first | decide | simp) (by assumption) (fun w' hw' K hK => by ((try unfold Same at hw'); (try go_split_ands); go_simp; exact hK)) ?_
    refine wpOrd_rd rfl rfl (by first | decide | simp) (by assumption) (fun w' hw' K hK => by ((try unfold Same at hw'); (try go_split_ands); go_simp; exact hK)) ?_
    refine wpOrd_rd rfl rfl (by first | decide | simp) (by assumption) (fun w' hw' K hK => by ((try unfold Same at hw'); (try go_split_ands); go_simp; exact hK)) ?_
    refine wpOrd_rd rfl rfl (by first | decide | simp) (by assumption) (fun w' hw' K hK => by ((try unfold Same at hw'); (try go_split_ands); go_simp; exact hK)) ?_
    refine wpOrd_nil ?_
    go_wp2_with fail
    go_ret
    exact ⟨rfl, (Chg.refl _ _).drew⟩

/-- While the reference's standby is made. -/
structure RnI (w wr : World) (b : Nat) (pv : Value) (k : Nat) : Prop where
  blk : wr.heap[b]? = some (.cells #[pv, .slice none 0 0] 51 (0, 0))
  pgs : wr.ownsRow w.heap.size 48 2 pv k (pgsC (List.replicate k Pg.empty))
  no : ¬ OwnB pv b
  ge : w.heap.size ≤ b
  chg : Chg NoB w wr

set_option maxRecDepth 100000 in
theorem rNew_calls (n : Nat) (h1 : 1 ≤ n) (h8 : n ≤ 8) (w : World) :
    Calls Try.prog 10 #[.int .i64 n] w fun e w' => ∃ p pv, e = .returned (.pointer (some ⟨p, 0, none⟩)) ∧ Hid (RfAt w w' p pv (.slice none 0 0) (sNew n).pg []) ∧ Hid (Chg NoB w w') := by
  go_enter Try.func10, Try.ntmps10
  go_wp2
  have HO : Hid (RnI w (w.alloc (.cells #[.slice none 0 0, .slice none 0 0] 51)) w.heap.size (.slice none 0 0) 0) := hid ⟨blk_new _ _, World.ownsRow_nil _ _ _ _, by simp [OwnB, Value.ownBlock], Nat.le_refl _, (Chg.refl _ _).alloc _⟩
  obtain ⟨b, hb⟩ := named w.heap.size
  rw [← hb.out] at HO ⊢
  obtain ⟨wA, hwA⟩ := named (w.alloc (.cells #[.slice none 0 0, .slice none 0 0] 51))
  rw [← hwA.out] at HO ⊢
  clear hb hwA
  go_loopw [4] (fun i wr => ∃ (k : Nat) (pv : Value), k ≤ n ∧ i = .int .i64 k ∧ Hid (RnI w wr b pv k)) (fun i _ => n - (intOf i).toNat)
  case atStart => exact ⟨0, _, by omega, rfl, HO⟩
  case round =>
    obtain ⟨k, pv, hk, rfl, hI⟩ := hrel
    clear HO
    by_cases hlt : k < n
    · obtain ⟨ap, cp, rfl⟩ := ownsForm hI.out.pgs
      go_upto_region 5 with fail
      have p0 : wr.cell? ⟨b, 0, none⟩ = some (.slice ap k cp) := by rw [cell_blk hI.out.blk]; rfl
      have hbl := lt_of_block hI.out.blk
      refine wp_region_ord 10 (.rd 0 (.rd 1 (.rd 2 (.rd 3 (.rd 4 (.one 5 (.one 6 (.one 7 (.rd 8 (.rd 9 (.one 10 (.done)))))))))))) (fun w' => w'.cell? ⟨b, 0, none⟩ = some (.slice ap k cp)) (by kernel_rfl) (by kernel_rfl) (by kernel_rfl) (by kernel_rfl) (by kernel_rfl) (fun _ _ d _ _ h => by cases d <;> exact h) (p0) (fun hS0 => ?_)
      refine wpOrd_rd rfl rfl (by first | decide | simp) (by assumption) (fun w' hw' K hK => by ((try unfold Same at hw'); (try go_split_ands); go_simp; exact hK)) ?_
      refine wpOrd_rd rfl rfl (by first | decide | simp) (by assumption) (fun w' hw' K hK => by ((try unfold Same at hw'); (try go_split_ands); go_simp; exact hK)) ?_
      refine wpOrd_rd rfl rfl (by first | decide | simp) (by assumption) (fun w' hw' K hK => by ((try unfold Same at hw'); (try go_split_ands); go_simp; exact hK)) ?_
      refine wpOrd_rd rfl rfl (by first | decide | simp) (by assumption) (fun w' hw' K hK => by ((try unfold Same at hw'); (try go_split_ands); go_simp; exact hK)) ?_
      refine wpOrd_rd rfl rfl (by first | decide | simp) (by assumption) (fun w' hw' K hK => by ((try unfold Same at hw'); (try go_split_ands); go_simp; exact hK)) ?_
      refine wpOrd_do rfl ?_
      (first | refine wpList_plain rfl (fun K hK => ?_) | refine wpList_step (fun K hK => ?_))
      go_simp
      ((with_reducible refine (rEmpty_calls _).mono ?_); rintro e w2 ⟨rfl, hc2⟩)
      refine hK _ _ ?_
      clear hK K
      simp only [Pg.val]
      (try dsimp only [Act.put])
      refine wpOrd_done (((Chg.refl NoB wr).drew.trans' hc2).cell p0 nob) (fun hS1 => ?_)
      refine wpOrd_do rfl ?_
      (first | refine wpList_plain rfl (fun K hK => ?_) | refine wpList_step (fun K hK => ?_))
      go_simp
      refine hK _ _ ?_
      clear hK K
      (try dsimp only [Act.put])
      refine wpOrd_done ((((Chg.refl NoB wr).drew.trans' hc2).alloc _).cell p0 nob) (fun hS2 => ?_)
      refine wpOrd_do rfl ?_
      refine step_app1 slPg2 rfl _ _ rfl (ownsRow.chg hI.out.pgs (((Chg.refl NoB wr).drew.trans' hc2).alloc _) (fun _ _ => nob)) rfl w2.heap.size (encP Pg.empty) rfl (blk_new _ _) rfl rfl (by simp [encP, Value.oneCell']) (by omega) (by unfold maxLen; omega) (by have := hI.out.chg.size; have := hc2.size; simp at *; omega) ?_; intro v5 w5 hv5 hc5 hob5 hnil
      (try dsimp only [Act.put])
      (try simp only [List.setIfInBounds_toArray, List.set_cons_zero, List.set_cons_succ])
      refine wpOrd_done (hc5.cell ((((Chg.refl NoB wr).drew.trans' hc2).alloc _).cell p0 nob) hI.out.no) (fun hS3 => ?_)
      refine wpOrd_rd rfl rfl (by first | decide | simp) (by assumption) (fun w' hw' K hK => by ((try unfold Same at hw'); (try go_split_ands); go_simp; exact hK)) ?_
      refine wpOrd_rd rfl rfl (by first | decide | simp) (by assumption) (fun w' hw' K hK => by ((try unfold Same at hw'); (try go_split_ands); go_simp; exact hK)) ?_
      refine wpOrd_do rfl ?_
      refine step_store1 rfl rfl b 0 rfl rfl (by obtain ⟨a5, n5, rfl⟩ := ownsForm hv5; rfl) (by obtain ⟨a5, n5, rfl⟩ := ownsForm hv5; rfl) (cs := [.slice ap k cp, .slice none 0 0]) (hc5.heap ((((Chg.refl NoB wr).drew.trans' hc2).alloc _).heap hI.out.blk nob) hI.out.no) (by simp) (by kernel_rfl) ?_; intro w6 hb6 hc6 hs6
      (try dsimp only [Act.put])
      refine wpOrd_last ?_
      refine wpOrd_nil ?_
      have hX : Chg (OwnB (.slice ap k cp)) wr w5 := ((((Chg.refl NoB wr).drew.trans' hc2).alloc _).mono fun _ e => e.elim).trans' hc5
      have hn5 : ¬ OwnB v5 b := fun h => by
        rcases hob5 b h with h1 | h1
        · exact hI.out.no h1
        · have := (((Chg.refl NoB wr).drew.trans' hc2).alloc (.cells #[Value.int IntKind.i64 Pg.empty.at_, Value.string Pg.empty.data] 48)).size; omega
      have HN : Hid (RnI w w6 b v5 (k + 1)) := hid ⟨by rw [hb6]; rfl, by
          have := ownsRow.chg hv5 hc6 (fun j hj e => hn5 (by have h' : j = b := e; rwa [h'] at hj))
          rw [List.replicate_succ', pgsC_snoc]; exact this, hn5, hI.out.ge, (hI.out.chg.trans hX (fun i hi => .inr (OwnB.ge hI.out.pgs i hi).1)).trans hc6 (fun i hi => .inr (by have h' : i = b := hi; rw [h']; exact hI.out.ge))⟩
      clear hb6 hc6 hs6 hX hn5 hv5 hc5 hob5 hnil hc2 p0 hbl
      go_wp2_with fail
      go_roundw
      case rel => exact ⟨k + 1, v5, by omega, by go_num, HN⟩
      case measure => simp [intOf]; omega
    · obtain rfl : k = n := by omega
      go_wp2_with fail
      go_ret
      refine ⟨b, pv, rfl, hid ⟨hI.out.blk, by simpa [sNew] using hI.out.pgs, OwnE.nil _ _ _, ⟨by simp [OwnB, Value.ownBlock], hI.out.no, by simp [OwnB, Value.ownBlock]⟩, hI.out.ge, by simp [sNew]; omega, ?_⟩, hid hI.out.chg⟩
      exact rep_size _

/-- While it is fed. -/
structure FrI (w0 w wr : World) (p : Nat) (pv lv lv' : Value) (s : SS) : Prop where
  at_ : RfAt w0 wr p pv lv' s.pg s.L
  chg : Chg (rfFp p pv lv) w wr
  new : ∀ k, OwnB lv' k → OwnB lv k ∨ w.heap.size ≤ k
theorem RfAt.fp {w0 w : World} {p : Nat} {pv lv : Value} {P : List Pg} {L : List Ent} (h : RfAt w0 w p pv lv P L) : ∀ k, rfFp p pv lv k → w0.heap.size ≤ k := by
  rintro k (rfl | hk | hk)
  · exact h.ge
  · exact (OwnB.ge h.pgs k hk).1
  · exact (h.lst.ge hk).1
theorem RfAt.fpl {w0 w : World} {p : Nat} {pv lv : Value} {P : List Pg} {L : List Ent} (h : RfAt w0 w p pv lv P L) : ∀ k, rfFp p pv lv k → k < w.heap.size := by
  rintro k (rfl | hk | hk)
  · exact lt_of_block h.blk
  · exact (OwnB.ge h.pgs k hk).2
  · exact (h.lst.ge hk).2
theorem FrI.in0 {w0 w wr : World} {p : Nat} {pv lv lv' : Value} {s s0 : SS} (h : FrI w0 w wr p pv lv lv' s) (hA : Chg NoB w0 w) (h0 : RfAt w0 w p pv lv s0.pg s0.L) : Chg NoB w0 wr := hA.trans h.chg (fun k hk => .inr (h0.fp k hk))
theorem FrI.keep0 {w0 w wr w' : World} {p : Nat} {pv lv lv' : Value} {s : SS} (h : FrI w0 w wr p pv lv lv' s) (hc : Chg NoB wr w') : FrI w0 w w' p pv lv lv' s := ⟨h.at_.keep0 hc, h.chg.trans hc (fun _ e => e.elim), h.new⟩
theorem FrI.same {w0 w wr : World} {p : Nat} {pv lv lv' : Value} {s s1 : SS} (h : FrI w0 w wr p pv lv lv' s) (h1 : s1.pg = s.pg) (h2 : s1.L = s.L) : FrI w0 w wr p pv lv lv' s1 := ⟨by rw [h1, h2]; exact h.at_, h.chg, h.new⟩
theorem etS {wA w' : World} {p b o : Nat} {lv v1 v2 : Value} {x : Ent} {S : Nat → Prop} (h1 : wA.cell? ⟨p, 1, none⟩ = some lv) (h2 : EtAt wA b o x v1 v2) (hc : Chg S wA w') (hp : ¬ S p) (hb : ¬ S b) :
    w'.cell? ⟨p, 1, none⟩ = some lv ∧ w'.cell? ⟨b, o, none⟩ = some (.int .i64 x.at_) ∧ w'.cell? ⟨b, o + 1, none⟩ = some (.int .i64 x.r.kind) ∧ w'.cell? ⟨b, o + 2, none⟩ = some (.int .i64 x.r.txn) ∧ w'.cell? ⟨b, o + 3, none⟩ = some (.int .i64 x.r.page) ∧ w'.cell? ⟨b, o + 4, none⟩ = some (.int .i64 x.r.off) ∧ w'.cell? ⟨b, o + 5, none⟩ = some (.int .i64 x.r.prev) ∧
    w'.cell? ⟨b, o + 6, none⟩ = some (.int .i64 x.r.next) ∧ w'.cell? ⟨b, o + 7, none⟩ = some (.int .i64 x.r.beg) ∧ w'.cell? ⟨b, o + 8, none⟩ = some (.string x.r.before) ∧ w'.cell? ⟨b, o + 9, none⟩ = some (.string x.r.after) ∧ w'.cell? ⟨b, o + 10, none⟩ = some v1 ∧ w'.cell? ⟨b, o + 11, none⟩ = some v2 :=
  ⟨hc.cell h1 hp, (h2.keep hc hb).cells⟩

set_option maxRecDepth 100000 in
theorem rFeed_calls (w0 : World) (p : Nat) (pv lv : Value) (s : SS) (v : Value) (l : List Ent) (w : World) (hA : Chg NoB w0 w) (h : RfAt w0 w p pv lv s.pg s.L) (hv : Ents w0 v l) (hok : ∀ x ∈ l, x.r.okk) (hl : s.L.length + l.length ≤ 1000000) (n er : Int) (s' : SS) (hres : Hid ((n, er, s') = sFeed s l)) :
    Calls Try.prog 12 #[.pointer (some ⟨p, 0, none⟩), v] w fun e w' => e = .returned (.tuple #[.int .i64 n, .int .i64 er]) ∧ ∃ lv', Hid (FrI w0 w w' p pv lv lv' s') := by
  have HV := hid hv
  obtain ⟨a, c, rfl, h1, h2, h3⟩ := hv
  unfold maxLen at h2
  have H3 := hid h3
  have HH := hid h
  have HA := hid hA
  have HK := hid hok
  obtain ⟨ri, hri⟩ := named (risesB l)
  clear h3 h hA hok
  cases ri
  · have hr3 : (n, er, s') = (0, 3, s) := by
      rw [hres.out]; unfold sFeed; rw [← hri.out]; rfl
    cases hr3
    go_enter Try.func12, Try.ntmps12
    go_wp2_with (go_at_call 23; refine (rises_calls _ l _ (HV.out.mono HA.out) _ hri).mono ?_; rintro e w' ⟨rfl, q9, rfl⟩)
    go_ret2
    exact ⟨rfl, lv, ⟨HH.out.keep0 ((Chg.refl _ _).drewN _), (Chg.refl _ _).drewN _, fun k hk => .inl hk⟩⟩
  · obtain ⟨⟨un, us⟩, hu⟩ := named (l.foldl sStep (0, s))
    have HR : Hid (n = un ∧ er = 0 ∧ s' = us) := hid (by
      have h9 := hres.out
      unfold sFeed at h9
      rw [if_pos hri.out.symm, ← hu.out] at h9
      simpa using h9)
    clear hres
    go_enter Try.func12, Try.ntmps12
    go_wp2_with (go_at_call 23; refine (rises_calls _ l _ (HV.out.mono HA.out) _ hri).mono ?_; rintro e w' ⟨rfl, q9, rfl⟩)
    go_loopw [6, 7] (fun nn i wr => ∃ (k : Nat) (cn : Int) (lv' : Value) (sk : SS), k ≤ l.length ∧ 0 ≤ cn ∧ cn ≤ k ∧ i = .int .i64 k ∧ nn = .int .i64 cn ∧ Hid ((cn, sk) = (l.take k).foldl sStep (0, s)) ∧ Hid (FrI w0 w wr p pv lv lv' sk)) (fun _ i _ => l.length - (intOf i).toNat)
    case atStart => exact ⟨0, 0, lv, s, by omega, by omega, by omega, rfl, rfl, rfl, ⟨HH.out.keep0 ((Chg.refl _ _).drewN _), (Chg.refl _ _).drewN _, fun k hk => .inl hk⟩⟩
    case round =>
      obtain ⟨k, cn, lv', sk, hk2, hcn0, hck, rfl, rfl, hs, hF⟩ := hrel
      by_cases hlt : k < l.length
      · obtain ⟨x, b, off, v1, v2, hx, rfl, ht, hok, hE, hbl, hone⟩ := Ents.at H3.out (hF.out.in0 HA.out HH.out) k hlt
        have HT := hid ht
        obtain ⟨⟨a1, n1, rfl, _, _, _⟩, ⟨a2, n2, rfl, _, _, _⟩⟩ := ht
        have HE := hid hE
        have c0 := hE.1
        have hsn : Hid ((l.take (k + 1)).foldl sStep (0, s) = sStep (cn, sk) x) := hid (by rw [take_snoc' hlt, List.foldl_append, ← hs.out, hx.out]; rfl)
        have hskl : sk.L.length ≤ s.L.length + k := by
          have := (sStep_len (l.take k) (0, s) (by simp)).1
          rw [← hs.out] at this
          simp at this
          omega
        have hxk : x.r.okk := HK.out _ (by rw [← hx.out]; exact List.getElem_mem _)
        clear hE
        go_upto_region 7 with fail
        obtain ⟨up, hup⟩ := named (sUpto sk.L)
        obtain ⟨bb, hbb⟩ := named (decide (x.at_ ≤ up))
        have hd := hbb.out.symm
        refine wp_region_ord 8 (.rd 0 (.rd 1 (.rd 2 (.rd 3 (.rd 4 (.rd 5 (.one 6 (.rd 7 (.done))))))))) (Same wr) (by kernel_rfl) (by kernel_rfl) (by kernel_rfl) (by kernel_rfl) (by kernel_rfl) (fun _ _ d _ _ h => by cases d <;> exact h) (Same.of (Chg.refl _ _).drew) (fun hS0 => ?_)
        refine wpOrd_rd rfl rfl (by first | decide | simp) (by assumption) (fun w' hw' K hK => by ((try unfold Same at hw'); (try go_split_ands); go_simp; exact hK)) ?_
        refine wpOrd_rd rfl rfl (by first | decide | simp) (by assumption) (fun w' hw' K hK => by ((try unfold Same at hw'); (try go_split_ands); go_simp; exact hK)) ?_
        refine wpOrd_rd rfl rfl (by first | decide | simp) (by assumption) (fun w' hw' K hK => by ((try unfold Same at hw'); (try go_split_ands); go_simp; exact hK)) ?_
        refine wpOrd_rd rfl rfl (by first | decide | simp) (by assumption) (fun w' hw' K hK => by ((try unfold Same at hw'); (try go_split_ands); go_simp; exact hK)) ?_
        refine wpOrd_rd rfl rfl (by first | decide | simp) (by assumption) (fun w' hw' K hK => by ((try unfold Same at hw'); (try go_split_ands); go_simp; exact hK)) ?_
        refine wpOrd_rd rfl rfl (by first | decide | simp) (by assumption) (fun w' hw' K hK => by ((try unfold Same at hw'); (try go_split_ands); go_simp; exact hK)) ?_
        refine wpOrd_do rfl ?_
        (first | refine wpList_plain rfl (fun K hK => ?_) | refine wpList_step (fun K hK => ?_))
        go_simp
        ((with_reducible refine (rUpto_calls w0 p pv lv' sk.pg sk.L _ (hF.out.at_.keep0 (Chg.refl NoB _).drew) (by omega) up hup).mono ?_); rintro e w2 ⟨rfl, hc2⟩)
        refine hK _ _ ?_
        clear hK K
        (try dsimp only [Act.put])
        refine wpOrd_done (Same.of ((Chg.refl NoB wr).drew.trans' hc2)) (fun hS1 => ?_)
        refine wpOrd_rd rfl rfl (by first | decide | simp) (by assumption) (fun w' hw' K hK => by ((try unfold Same at hw'); (try go_split_ands); go_simp; exact hK)) ?_
        refine wpOrd_nil ?_
        have hc9 : Chg NoB wr w2 := (Chg.refl NoB wr).drew.trans' hc2
        have hF2 := hid (hF.out.keep0 hc9)
        have hE2 := hid (HE.out.keep hc9 nob)
        have hST : Hid (sStep (cn, sk) x = if bb then (cn, sk) else (cn + 1, sTake sk x)) := hid (by
          rw [hbb.out]; unfold sStep; rw [hup.out]
          by_cases h0 : sUpto sk.L < x.at_
          · have : ¬ x.at_ ≤ sUpto sk.L := by omega
            simp [h0, this]
          · have : x.at_ ≤ sUpto sk.L := by omega
            simp [h0, this])
        clear hc2 hc9 hS0 c0 hd
        cases bb
        · have hw : IntKind.i64.wrap (cn + 1) = cn + 1 := by rw [IntKind.wrap_i64]; omega
          have hst : Hid (sStep (cn, sk) x = (cn + 1, sTake sk x)) := hid (by rw [hST.out]; rfl)
          obtain ⟨p0, p1⟩ := hF2.out.at_.cells
          have hpl := lt_of_block hF2.out.at_.blk
          have hw0p := hF2.out.at_.ge
          have HP := hid hF2.out.at_.blk
          have hEK : EntK (fun k => OwnB lv' k ∨ NewK w0 k) ((w2.drew).alloc (.cells (encE (x, .slice a1 x.r.txns.length n1, .slice a2 x.r.pages.length n2)).toArray 57)) (x, .slice a1 x.r.txns.length n1, .slice a2 x.r.pages.length n2) := entK_new HT.out hok.out (((hF2.out.in0 HA.out HH.out).drew).alloc _) (fun k hk => hk.elim (fun h => (hF2.out.at_.lst.ge h).1) id)
          have hno : ¬ OwnB lv' p ∧ ¬ OwnB lv' b := ⟨hF2.out.at_.ne.1, fun hk => by have := (hF2.out.at_.lst.ge hk).1; omega⟩
          replace hEK := hid hEK
          clear hST
          go_upto_region 8 with fail
          refine wp_region_ord 13 (.rd 0 (.rd 1 (.rd 2 (.rd 3 (.rd 4 (.rd 5 (.rd 6 (.rd 7 (.rd 8 (.one 9 (.one 10 (.rd 11 (.rd 12 (.one 13 (.done))))))))))))))) (fun w' => w'.cell? ⟨p, 1, none⟩ = some lv' ∧ w'.cell? ⟨b, off + k * 12, none⟩ = some (.int .i64 x.at_) ∧ w'.cell? ⟨b, off + k * 12 + 1, none⟩ = some (.int .i64 x.r.kind) ∧ w'.cell? ⟨b, off + k * 12 + 2, none⟩ = some (.int .i64 x.r.txn) ∧ w'.cell? ⟨b, off + k * 12 + 3, none⟩ = some (.int .i64 x.r.page) ∧ w'.cell? ⟨b, off + k * 12 + 4, none⟩ = some (.int .i64 x.r.off) ∧ w'.cell? ⟨b, off + k * 12 + 5, none⟩ = some (.int .i64 x.r.prev) ∧ w'.cell? ⟨b, off + k * 12 + 6, none⟩ = some (.int .i64 x.r.next) ∧ w'.cell? ⟨b, off + k * 12 + 7, none⟩ = some (.int .i64 x.r.beg) ∧ w'.cell? ⟨b, off + k * 12 + 8, none⟩ = some (.string x.r.before) ∧ w'.cell? ⟨b, off + k * 12 + 9, none⟩ = some (.string x.r.after) ∧ w'.cell? ⟨b, off + k * 12 + 10, none⟩ = some (.slice a1 x.r.txns.length n1) ∧ w'.cell? ⟨b, off + k * 12 + 11, none⟩ = some (.slice a2 x.r.pages.length n2)) (by kernel_rfl) (by kernel_rfl) (by kernel_rfl) (by kernel_rfl) (by kernel_rfl) (fun _ _ d _ _ h => by cases d <;> exact h) (etS p1 hE2.out (Chg.refl NoB _).drew nob nob) (fun hS0 => ?_)
          refine wpOrd_rd rfl rfl (by first | decide | simp) (by assumption) (fun w' hw' K hK => by ((try unfold Same at hw'); (try go_split_ands); go_simp; exact hK)) ?_
          refine wpOrd_rd rfl rfl (by first | decide | simp) (by assumption) (fun w' hw' K hK => by ((try unfold Same at hw'); (try go_split_ands); go_simp; exact hK)) ?_
          refine wpOrd_rd rfl rfl (by first | decide | simp) (by assumption) (fun w' hw' K hK => by ((try unfold Same at hw'); (try go_split_ands); go_simp; exact hK)) ?_
          refine wpOrd_rd rfl rfl (by first | decide | simp) (by assumption) (fun w' hw' K hK => by ((try unfold Same at hw'); (try go_split_ands); go_simp; exact hK)) ?_
          refine wpOrd_rd rfl rfl (by first | decide | simp) (by assumption) (fun w' hw' K hK => by ((try unfold Same at hw'); (try go_split_ands); go_simp; exact hK)) ?_
          refine wpOrd_rd rfl rfl (by first | decide | simp) (by assumption) (fun w' hw' K hK => by ((try unfold Same at hw'); (try go_split_ands); go_simp; exact hK)) ?_
          refine wpOrd_rd rfl rfl (by first | decide | simp) (by assumption) (fun w' hw' K hK => by ((try unfold Same at hw'); (try go_split_ands); go_simp; exact hK)) ?_
          refine wpOrd_rd rfl rfl (by first | decide | simp) (by assumption) (fun w' hw' K hK => by ((try unfold Same at hw'); (try go_split_ands); go_simp; exact hK)) ?_
          refine wpOrd_rd rfl rfl (by first | decide | simp) (by assumption) (fun w' hw' K hK => by ((try unfold Same at hw'); (try go_split_ands); go_simp; exact hK)) ?_
          refine wpOrd_do rfl ?_
          (first | refine wpList_plain rfl (fun K hK => ?_) | refine wpList_step (fun K hK => ?_))
          go_simp
          refine hK _ _ ?_
          clear hK K
          (try dsimp only [Act.put])
          refine wpOrd_done (etS p1 hE2.out ((Chg.refl NoB _).drew.alloc _) nob nob) (fun hS1 => ?_)
          refine wpOrd_do rfl ?_
          refine step_appE slEnt rfl _ _ rfl (hF2.out.at_.lst.keep0 ((Chg.refl NoB w2).drew.alloc _)) rfl w2.heap.size x (.slice a1 x.r.txns.length n1) (.slice a2 x.r.pages.length n2) rfl (blk_new _ _) rfl hone hEK.out (by omega) (by simp; omega) ?_; intro v5 w5 ho5 hc5 hob5
          (try dsimp only [Act.put])
          (try simp only [List.setIfInBounds_toArray, List.set_cons_zero, List.set_cons_succ])
          refine wpOrd_done (etS p1 hE2.out (((Chg.refl NoB _).drew.alloc _ |>.mono fun _ e => e.elim).trans' hc5) hno.1 hno.2) (fun hS2 => ?_)
          refine wpOrd_rd rfl rfl (by first | decide | simp) (by assumption) (fun w' hw' K hK => by ((try unfold Same at hw'); (try go_split_ands); go_simp; exact hK)) ?_
          refine wpOrd_rd rfl rfl (by first | decide | simp) (by assumption) (fun w' hw' K hK => by ((try unfold Same at hw'); (try go_split_ands); go_simp; exact hK)) ?_
          refine wpOrd_do rfl ?_
          obtain ⟨a5, n5, rfl⟩ := ho5.form; refine step_store1 rfl rfl p 1 rfl rfl rfl rfl (cs := [pv, lv']) (hc5.heap (blk_alloc (w := w2.drew) HP.out _) hno.1) (by simp) (by kernel_rfl) ?_; intro w6 hb6 hc6 hs6
          (try dsimp only [Act.put])
          refine wpOrd_last ?_
          refine wpOrd_nil ?_
          have hX : Chg (OwnB lv') w2 w5 := ((Chg.refl NoB w2).drew.alloc _ |>.mono fun _ e => e.elim).trans' hc5
          have hn5 : ∀ k, OwnB (.slice a5 (sk.L ++ [x]).length n5) k → OwnB lv' k ∨ w2.heap.size ≤ k := fun k hk => by
            rcases hob5 k hk with h1 | h1
            · exact .inl h1
            · right; simp at h1; omega
          have hnp : ¬ OwnB (.slice a5 (sk.L ++ [x]).length n5) p := fun hk => by
            rcases hn5 p hk with h1 | h1
            · exact hno.1 h1
            · omega
          obtain ⟨s1, hs1⟩ := named ({ sk with L := sk.L ++ [x] } : SS)
          have hI6 : Hid (FrI w0 w w6 p pv lv (.slice a5 (sk.L ++ [x]).length n5) s1) := hid (by
            rw [hs1.out]
            refine ⟨⟨by rw [hb6]; rfl, ownsRow.chg (ownsRow.chg hF2.out.at_.pgs hX hF2.out.at_.ne.2.2) hc6 (fun j hj e => hF2.out.at_.ne.2.1 (by have h' : j = p := e; rwa [h'] at hj)), ho5.keep hc6 (fun j hj => .inl (by have h' : j = p := hj; rw [h']; exact hF2.out.at_.ge)) (fun j hj e => hnp (by have h' : j = p := e; rwa [h'] at hj)), ⟨hnp, hF2.out.at_.ne.2.1, fun j hj hj5 => ?_⟩, hF2.out.at_.ge, hF2.out.at_.l8, hF2.out.at_.sz⟩, ?_, fun j hj => ?_⟩
            · rcases hn5 j hj5 with h1 | h1
              · exact hF2.out.at_.ne.2.2 j hj h1
              · have := (OwnB.ge hF2.out.at_.pgs j hj).2; omega
            · exact (hF2.out.chg.trans hX (fun j hj => (hF2.out.new j hj).imp (fun h => .inr (.inr h)) id)).trans hc6 (fun j hj => .inl (.inl hj))
            · rcases hn5 j hj with h1 | h1
              · exact hF2.out.new j h1
              · have := hF2.out.chg.size; right; omega)
          have hE6 : Hid (EtAt w6 b (off + k * 12) x (.slice a1 x.r.txns.length n1) (.slice a2 x.r.pages.length n2)) := hid ((hE2.out.keep hX hno.2).keep hc6 (fun e => by have h' : b = p := e; omega))
          have hgen : FrI w0 w w6 p pv lv (.slice a5 (sk.L ++ [x]).length n5) s1 ∧ EtAt w6 b (off + k * 12) x (.slice a1 x.r.txns.length n1) (.slice a2 x.r.pages.length n2) := ⟨hI6.out, hE6.out⟩
          clear hS0 hS1 hS2 hb6 hc6 hs6 hX hn5 hnp ho5 hc5 hob5 p0 p1 hno hEK HP hpl hw0p hI6 hE6 hF2 hE2
          go_upto_region 10 with fail
          refine wp_gen (fun W => FrI w0 w W p pv lv (.slice a5 (sk.L ++ [x]).length n5) s1 ∧ EtAt W b (off + k * 12) x (.slice a1 x.r.txns.length n1) (.slice a2 x.r.pages.length n2)) hgen ?_
          clear hgen
          rintro W ⟨hI, hE⟩
          obtain ⟨lv6, hlv6⟩ := named (Value.slice a5 (sk.L ++ [x]).length n5)
          rw [← hlv6.out] at hI
          have HI := hid hI
          have HEW := hid hE
          have g2 := hE.cells.2.2.2.1
          obtain ⟨ap, cp, hpv⟩ := ownsForm hI.at_.pgs
          have hl8 : s1.pg.length ≤ 8 := hI.at_.l8
          have p0 := hI.at_.cells.1
          rw [hpv] at p0
          have hS1 : Hid (s1.pg = sk.pg ∧ s1.L = sk.L ++ [x]) := hid (by rw [hs1.out]; exact ⟨rfl, rfl⟩)
          have hST : Hid ((l.take (k + 1)).foldl sStep (0, s) = (cn + 1, sTake sk x)) := hid (by rw [hsn.out, hst.out])
          have hL1 : Hid ((sTake sk x).L = s1.L) := hid (by rw [hS1.out.2]; rfl)
          have hP1 : Hid ((sTake sk x).pg = pSet s1.pg x.r.page (fun p => p.apply x.at_ x.r)) := hid (by rw [hS1.out.1]; rfl)
          obtain ⟨st, hsT⟩ := named (sTake sk x)
          rw [← hsT.out] at hST hL1 hP1
          have hpr : x.r.page < 0 ∨ (0 ≤ x.r.page ∧ (s1.pg.length : Int) ≤ x.r.page) ∨ (0 ≤ x.r.page ∧ x.r.page < s1.pg.length) := by omega
          clear hI hE hlv6 hS1 hsn hst hs1 hsT hF hs HE
          rcases hpr with hp | ⟨hp0, hp⟩ | ⟨hp0, hp⟩
          · have hpg : st.pg = s1.pg := by rw [hP1.out]; unfold pSet; rw [if_pos (.inl hp)]
            have HN := hid (HI.out.same hpg hL1.out)
            clear hpg hP1
            go_wp2_with fail
            go_roundw
            case rel => exact ⟨k + 1, cn + 1, lv6, st, by omega, by omega, by omega, by go_num, rfl, hid (hST.out.symm), HN⟩
            case measure => simp [intOf]; omega
          · have hpg : st.pg = s1.pg := by rw [hP1.out]; unfold pSet; rw [if_pos (.inr hp)]
            have HN := hid (HI.out.same hpg hL1.out)
            clear hpg hP1
            go_wp2_with fail
            go_roundw
            case rel => exact ⟨k + 1, cn + 1, lv6, st, by omega, by omega, by omega, by go_num, rfl, hid (hST.out.symm), HN⟩
            case measure => simp [intOf]; omega
          · obtain ⟨kp, hkp⟩ := Int.eq_ofNat_of_zero_le hp0
            have hkl : kp < s1.pg.length := by omega
            obtain ⟨q, hq⟩ := named s1.pg[kp]
            obtain ⟨q2, hq2⟩ := named (q.apply x.at_ x.r)
            have hnot : ¬ (x.r.page < 0 ∨ (s1.pg.length : Int) ≤ x.r.page) := by omega
            have hpg : Hid (st.pg = s1.pg.set kp q2) := hid (by rw [hP1.out]; unfold pSet; rw [if_neg hnot, hkp, Int.toNat_natCast, getD_at s1.pg kp hkl, hq2.out, hq.out])
            have hqs : q.data.size ≤ 220 := by rw [hq.out]; exact HI.out.at_.sz _ (List.getElem_mem hkl)
            have hqs' : q.data.size ≤ 2 ^ 62 := by omega
            obtain ⟨g, cap, post, hpv2, hg0, hgb, hcap, hback⟩ := own_post HI.out.at_.pgs (by omega)
            rw [hpv] at hpv2
            cases hpv2
            have HB := hid hback
            have HG := hid hgb
            obtain ⟨d1, d2⟩ := pg_cells (pre := []) (post := post) (w := W) (by simpa using hgb) kp hkl
            simp only [List.length_nil, Nat.zero_add] at d1 d2
            rw [← hq.out] at d1 d2
            obtain ⟨e0, e1, e2, e3, e4, e5, e6, e7, e8, e9, e10, e11⟩ := HEW.out.cells
            have hgp : g ≠ p := fun e => HI.out.at_.ne.2.1 (by rw [hpv, ← e]; simp [OwnB, Value.ownBlock])
            have hownp : ∀ j, OwnB pv j → j = g := fun j hj => by rw [hpv] at hj; simpa [OwnB, Value.ownBlock, eq_comm] using hj
            have hlen : Hid ((pgsC s1.pg ++ post).length = s1.pg.length * 2 + post.length) := hid (by simp [pgsC_len])
            have hpo : OwnB pv g := by rw [hpv]; simp [OwnB, Value.ownBlock]
            clear hback hgb hnot hP1 hq
            have hii : 0 ≤ (kp : Int) := by omega
            have hii2 : (kp : Int) < (s1.pg.length : Int) := by omega
            have hxs := hxk.2.2
            have hho : fits x.r.off := hxk.1.2.2.2.1
            have hxf := hok.out.2
            go_upto_region 12 with fail
            rw [hkp]
            clear hkp hp0 hp
            refine wp_region_ord 24 (.rd 0 (.rd 1 (.rd 2 (.rd 3 (.rd 4 (.rd 5 (.rd 6 (.rd 7 (.rd 8 (.rd 9 (.rd 10 (.rd 11 (.rd 12 (.rd 13 (.rd 14 (.rd 15 (.rd 16 (.rd 17 (.rd 18 (.rd 19 (.rd 20 (.rd 21 (.one 22 (.rd 23 (.one 24 (.done)))))))))))))))))))))))))) (Same W) (by kernel_rfl) (by kernel_rfl) (by kernel_rfl) (by kernel_rfl) (by kernel_rfl) (fun _ _ d _ _ h => by cases d <;> exact h) (Same.of (Chg.refl _ _).drew) (fun hS0 => ?_)
            refine wpOrd_rd rfl rfl (by first | decide | simp) (by assumption) (fun w' hw' K hK => by ((try unfold Same at hw'); (try go_split_ands); go_simp; exact hK)) ?_
            refine wpOrd_rd rfl rfl (by first | decide | simp) (by assumption) (fun w' hw' K hK => by ((try unfold Same at hw'); (try go_split_ands); go_simp; exact hK)) ?_
            refine wpOrd_rd rfl rfl (by first | decide | simp) (by assumption) (fun w' hw' K hK => by ((try unfold Same at hw'); (try go_split_ands); go_simp; exact hK)) ?_
            refine wpOrd_rd rfl rfl (by first | decide | simp) (by assumption) (fun w' hw' K hK => by ((try unfold Same at hw'); (try go_split_ands); go_simp; exact hK)) ?_
            refine wpOrd_rd rfl rfl (by first | decide | simp) (by assumption) (fun w' hw' K hK => by ((try unfold Same at hw'); (try go_split_ands); go_simp; exact hK)) ?_
            refine wpOrd_rd rfl rfl (by first | decide | simp) (by assumption) (fun w' hw' K hK => by ((try unfold Same at hw'); (try go_split_ands); go_simp; exact hK)) ?_
            refine wpOrd_rd rfl rfl (by first | decide | simp) (by assumption) (fun w' hw' K hK => by ((try unfold Same at hw'); (try go_split_ands); go_simp; exact hK)) ?_
            refine wpOrd_rd rfl rfl (by first | decide | simp) (by assumption) (fun w' hw' K hK => by ((try unfold Same at hw'); (try go_split_ands); go_simp; exact hK)) ?_
            refine wpOrd_rd rfl rfl (by first | decide | simp) (by assumption) (fun w' hw' K hK => by ((try unfold Same at hw'); (try go_split_ands); go_simp; exact hK)) ?_
            refine wpOrd_rd rfl rfl (by first | decide | simp) (by assumption) (fun w' hw' K hK => by ((try unfold Same at hw'); (try go_split_ands); go_simp; exact hK)) ?_
            refine wpOrd_rd rfl rfl (by first | decide | simp) (by assumption) (fun w' hw' K hK => by ((try unfold Same at hw'); (try go_split_ands); go_simp; exact hK)) ?_
            refine wpOrd_rd rfl rfl (by first | decide | simp) (by assumption) (fun w' hw' K hK => by ((try unfold Same at hw'); (try go_split_ands); go_simp; exact hK)) ?_
            refine wpOrd_rd rfl rfl (by first | decide | simp) (by assumption) (fun w' hw' K hK => by ((try unfold Same at hw'); (try go_split_ands); go_simp; exact hK)) ?_
            refine wpOrd_rd rfl rfl (by first | decide | simp) (by assumption) (fun w' hw' K hK => by ((try unfold Same at hw'); (try go_split_ands); go_simp; exact hK)) ?_
            refine wpOrd_rd rfl rfl (by first | decide | simp) (by assumption) (fun w' hw' K hK => by ((try unfold Same at hw'); (try go_split_ands); go_simp; exact hK)) ?_
            refine wpOrd_rd rfl rfl (by first | decide | simp) (by assumption) (fun w' hw' K hK => by ((try unfold Same at hw'); (try go_split_ands); go_simp; exact hK)) ?_
            refine wpOrd_rd rfl rfl (by first | decide | simp) (by assumption) (fun w' hw' K hK => by ((try unfold Same at hw'); (try go_split_ands); go_simp; exact hK)) ?_
            refine wpOrd_rd rfl rfl (by first | decide | simp) (by assumption) (fun w' hw' K hK => by ((try unfold Same at hw'); (try go_split_ands); go_simp; exact hK)) ?_
            refine wpOrd_rd rfl rfl (by first | decide | simp) (by assumption) (fun w' hw' K hK => by ((try unfold Same at hw'); (try go_split_ands); go_simp; exact hK)) ?_
            refine wpOrd_rd rfl rfl (by first | decide | simp) (by assumption) (fun w' hw' K hK => by ((try unfold Same at hw'); (try go_split_ands); go_simp; exact hK)) ?_
            refine wpOrd_rd rfl rfl (by first | decide | simp) (by assumption) (fun w' hw' K hK => by ((try unfold Same at hw'); (try go_split_ands); go_simp; exact hK)) ?_
            refine wpOrd_rd rfl rfl (by first | decide | simp) (by assumption) (fun w' hw' K hK => by ((try unfold Same at hw'); (try go_split_ands); go_simp; exact hK)) ?_
            refine wpOrd_do rfl ?_
            (first | refine wpList_plain rfl (fun K hK => ?_) | refine wpList_step (fun K hK => ?_))
            go_simp
            ((with_reducible refine (rApply_calls q x.at_ x.r (.slice a1 x.r.txns.length n1) (.slice a2 x.r.pages.length n2) _ q2 hq2 hqs' hxs hho hxf).mono ?_); rintro e w7 ⟨rfl, hc7⟩)
            refine hK _ _ ?_
            clear hK K
            (try dsimp only [Act.put])
            refine wpOrd_done (Same.of ((Chg.refl NoB W).drew.trans' hc7)) (fun hS1 => ?_)
            refine wpOrd_rd rfl rfl (by first | decide | simp) (by assumption) (fun w' hw' K hK => by ((try unfold Same at hw'); (try go_split_ands); go_simp; exact hK)) ?_
            refine wpOrd_do rfl ?_
            refine step_storeAt rfl rfl g (kp * 2) (cells := encP q2) rfl rfl (((Chg.refl NoB W).drew.trans' hc7).heap HG.out nob) (by kernel_rfl) (by rw [hlen.out]; simp [encP]; omega) (by simp [encP, Value.oneCell']) ?_; intro w8 hb8 hc8 hs8
            (try dsimp only [Act.put])
            refine wpOrd_last ?_
            refine wpOrd_nil ?_
            have hsp := pg_splice [] post s1.pg kp q2 hkl
            simp only [List.length_nil, Nat.zero_add, List.nil_append] at hsp
            rw [hsp] at hb8
            have hc9 : Chg (OneB g) W w8 := (((Chg.refl NoB W).drew.trans' hc7).mono fun _ e => e.elim).trans' hc8
            have HN : Hid (FrI w0 w w8 p pv lv lv6 st) := hid (by
              have hA := HI.out.at_
              refine ⟨⟨hc9.heap hA.blk (fun e => hgp (Eq.symm e)), ?_, ?_, hA.ne, hA.ge, ?_, ?_⟩, HI.out.chg.trans' (hc9.mono fun j hj => .inl ?_), HI.out.new⟩
              · rw [hpg.out, List.length_set]
                exact HB.out w8 _ (by simp [pgsC_len]) hb8
              · rw [hL1.out]
                exact hA.lst.keep hc9 (fun j hj => .inl (by have h' : j = g := hj; rw [h']; exact hg0)) (fun j hj e => hA.ne.2.2 g hpo (by have h' : j = g := e; rwa [h'] at hj))
              · rw [hpg.out, List.length_set]; exact hl8
              · intro z hz
                rw [hpg.out] at hz
                rcases List.mem_or_eq_of_mem_set hz with h | rfl
                · exact hA.sz z h
                · rw [hq2.out]; exact apply_size q _ _ hqs
              · have h' : j = g := hj
                rw [h']
                exact .inr (.inl hpo))
            clear hb8 hc8 hs8 hc7 hc9 hS0 hS1
            go_wp2_with fail
            go_roundw
            case rel => exact ⟨k + 1, cn + 1, lv6, st, by omega, by omega, by omega, by go_num, rfl, hid (hST.out.symm), HN⟩
            case measure => simp [intOf]; omega
        · go_wp2_with fail
          go_roundw
          case rel => exact ⟨k + 1, cn, lv', sk, by omega, by omega, by omega, by go_num, rfl, hid (by rw [hsn.out, hST.out]; rfl), hF2⟩
          case measure => simp [intOf]; omega
      · obtain rfl : k = l.length := by omega
        have hfin : Hid (cn = n ∧ er = 0 ∧ sk = s') := hid (by
          have h9 := hs.out
          rw [List.take_length, ← hu.out] at h9
          obtain ⟨r1, r2, r3⟩ := HR.out
          cases h9
          exact ⟨r1.symm, r2, r3.symm⟩)
        obtain ⟨r1, r2, r3⟩ := hfin.out
        subst r1 r2 r3
        go_wp2_with fail
        go_ret2
        exact ⟨rfl, lv', hF⟩
end Go.Proofs.Ytekjchphlphecaa
