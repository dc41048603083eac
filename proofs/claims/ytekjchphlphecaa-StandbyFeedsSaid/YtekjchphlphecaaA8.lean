import Derived.Test.YtekjchphlphecaaA7
import Derived.Test.YtekjchphlphecaaA3
import Derived.Test.YtekjchphlphecaaRepN
namespace Go.Proofs.Ytekjchphlphecaa
open Go.RowKit Go.ChangeMaps Go.MapKept
attribute [local go_sem] Go.Oper.rdK
set_option linter.unusedVariables false
set_option linter.unusedSimpArgs false
set_option maxHeartbeats 8000000

structure SS where
  pg : List Pg
  L : List Ent
  last : List (Int × Int)
def sUpto (L : List Ent) : Int := match L.getLast? with | none => 0 | some x => x.at_
def sLast (m : List (Int × Int)) (x : Ent) : List (Int × Int) := if x.r.kind = 1 ∨ x.r.kind = 2 then mput m x.r.txn x.at_ else if x.r.kind = 3 ∨ x.r.kind = 4 then mdel m x.r.txn else m
def sTake (s : SS) (x : Ent) : SS := ⟨pSet s.pg x.r.page (fun p => p.apply x.at_ x.r), s.L ++ [x], sLast s.last x⟩
def sStep (u : Int × SS) (x : Ent) : Int × SS := if sUpto u.2.L < x.at_ then (u.1 + 1, sTake u.2 x) else u
def sFeed (s : SS) (l : List Ent) : Int × Int × SS := if risesB l then (let u := l.foldl sStep (0, s); (u.1, 0, u.2)) else (0, 3, s)
def sLag (L : List Ent) (l : List Ent) : Int := (l.countP (fun x => decide (sUpto L < x.at_)) : Nat)
def sNew (n : Nat) : SS := ⟨List.replicate n Pg.empty, [], []⟩

/-- A standby lies in its blocks, all of them made behind w0. -/
structure StAt (w0 w : World) (p g rl : Nat) (lv : Value) (s : SS) : Prop where
  blk : w.heap[p]? = some (.cells #[.slice (some ⟨g, 0, none⟩) s.pg.length s.pg.length, lv, .map (some rl)] 68 (0, 0))
  pgs : w.heap[g]? = some (.cells (pgsC s.pg).toArray 48 (0, 0))
  mp : MapI w rl (Value.int .i64) s.last
  lst : OwnE (NewK w0) w w0.heap.size lv s.L
  ne : p ≠ g ∧ p ≠ rl ∧ g ≠ rl ∧ ¬ OwnB lv p ∧ ¬ OwnB lv g ∧ ¬ OwnB lv rl
  ge : w0.heap.size ≤ p ∧ w0.heap.size ≤ g ∧ w0.heap.size ≤ rl
  l8 : s.pg.length ≤ 8
  sz : ∀ q ∈ s.pg, q.data.size ≤ 220
  le : s.last.length ≤ s.L.length
def stFp (p g rl : Nat) (lv : Value) : Nat → Prop := fun k => k = p ∨ k = g ∨ k = rl ∨ OwnB lv k
theorem StAt.keep {w0 w w' : World} {p g rl : Nat} {lv : Value} {s : SS} (h : StAt w0 w p g rl lv s) {S : Nat → Prop} (hc : Chg S w w') (hs : ∀ k, S k → ¬ stFp p g rl lv k ∧ (w0.heap.size ≤ k ∨ w.heap.size ≤ k)) : StAt w0 w' p g rl lv s :=
  ⟨hc.heap h.blk (fun e => (hs _ e).1 (.inl rfl)), hc.heap h.pgs (fun e => (hs _ e).1 (.inr (.inl rfl))), h.mp.chg hc (fun e => (hs _ e).1 (.inr (.inr (.inl rfl)))), h.lst.keep hc (fun k hk => (hs k hk).2) (fun k hk e => (hs k e).1 (.inr (.inr (.inr hk)))), h.ne, h.ge, h.l8, h.sz, h.le⟩
theorem StAt.keep0 {w0 w w' : World} {p g rl : Nat} {lv : Value} {s : SS} (h : StAt w0 w p g rl lv s) (hc : Chg NoB w w') : StAt w0 w' p g rl lv s := h.keep hc fun _ e => e.elim
theorem StAt.cells {w0 w : World} {p g rl : Nat} {lv : Value} {s : SS} (h : StAt w0 w p g rl lv s) : w.cell? ⟨p, 0, none⟩ = some (.slice (some ⟨g, 0, none⟩) s.pg.length s.pg.length) ∧ w.cell? ⟨p, 1, none⟩ = some lv ∧ w.cell? ⟨p, 2, none⟩ = some (.map (some rl)) :=
  ⟨by rw [cell_blk h.blk]; rfl, by rw [cell_blk h.blk]; rfl, by rw [cell_blk h.blk]; rfl⟩

set_option maxRecDepth 100000 in
theorem upto_calls (w0 : World) (p g rl : Nat) (lv : Value) (s : SS) (w : World) (h : StAt w0 w p g rl lv s) (hl : s.L.length ≤ 100000000) (res : Int) (hres : Hid (res = sUpto s.L)) :
    Calls Try.prog 13 #[.pointer (some ⟨p, 0, none⟩)] w fun e w' => e = .returned (.int .i64 res) ∧ Chg NoB w w' := by
  obtain ⟨c0, c1, c2⟩ := h.cells
  obtain ⟨a, c, rfl, h1, h2, h3⟩ := h.lst.ents
  have H3 := hid h3
  clear h3 c0 c2
  rcases snoc_cases s.L with hL | ⟨ys, y, hL⟩
  · have hr : res = 0 := by rw [hres.out, hL]; rfl
    subst hr
    rw [hL] at c1 h1
    simp only [List.length_nil] at c1 h1
    clear hres hL h hl h2
    go_enter Try.func13, Try.ntmps13
    go_wp2
    go_ret
    exact ⟨rfl, Chg.refl _ _⟩
  · have hlen : s.L.length = ys.length + 1 := by rw [hL]; simp
    have hr : res = y.at_ := by rw [hres.out, hL]; simp [sUpto]
    subst hr
    have hy : s.L[ys.length]'(by omega) = y := by simp [hL]
    obtain ⟨x, b, off, v1, v2, hx, rfl, ht, hok, hE, hbl, hone⟩ := Ents.at H3.out (Chg.refl NoB w) ys.length (by omega)
    rw [hy] at hx
    have hxe := hx.out
    subst hxe
    have e0 := hE.cells.1
    obtain ⟨m, hm⟩ := named ys.length
    rw [← hm.out] at e0 hlen
    rw [hlen] at c1 h1 hl
    have hwm : IntKind.i64.wrap (m : Int) = (m : Int) := by rw [IntKind.wrap_i64]; omega
    have hm0 : (0 : Int) ≤ (m : Int) := by omega
    have hm1 : (m : Int) < (m : Int) + 1 := by omega
    clear hE H3 h hL hy hlen hres hx h2 ht
    go_enter Try.func13, Try.ntmps13
    go_upto_region 3 with fail
    refine wp_region_ord 14 (.rd 0 (.rd 1 (.rd 2 (.rd 3 (.rd 4 (.rd 5 (.rd 6 (.rd 7 (.rd 8 (.rd 9 (.rd 10 (.rd 11 (.rd 12 (.rd 13 (.done))))))))))))))) (Same w) (by kernel_rfl) (by kernel_rfl) (by kernel_rfl) (by kernel_rfl) (by kernel_rfl) (fun _ _ d _ _ h => by cases d <;> exact h) (Same.of (Chg.refl _ _).drew) (fun hS0 => ?_)
    refine wpOrd_rd rfl rfl (by first | decide | simp) (by assumption) (fun w' hw' K hK => by ((try unfold Same at hw'); (try go_split_ands); go_simp; exact hK)) ?_
    refine wpOrd_rd rfl rfl (by first | decide | simp) (by assumption) (fun w' hw' K hK => by ((try unfold Same at hw'); (try go_split_ands); go_simp; exact hK)) ?_
    refine wpOrd_rd rfl rfl (by first | decide | simp) (by assumption) (fun w' hw' K hK => by ((try unfold Same at hw'); (try go_split_ands); go_simp; exact hK)) ?_
    refine wpOrd_rd rfl rfl (by first | decide | simp) (by assumption) (fun w' hw' K hK => by ((try unfold Same at hw'); (try go_split_ands); go_simp; exact hK)) ?_
    refine wpOrd_rd rfl rfl (by first | decide | simp) (by assumption) (fun w' hw' K hK => by ((try unfold Same at hw'); (try go_split_ands); go_simp; exact hK)) ?_
    refine wpOrd_rd rfl rfl (by first | decide | simp) (by assumption) (fun w' hw' K hK => by ((try unfold Same at hw'); (try go_split_ands); go_simp; exact hK)) ?_
    refine wpOrd_rd rfl rfl (by first | decide | simp) (by assumption) (fun w' hw' K hK => by ((try unfold Same at hw'); (try go_split_ands); go_simp; exact hK)) ?_
    refine wpOrd_rd rfl rfl (by first | decide | simp) (by assumption) (fun w' hw' K hK => by ((try unfold Same at hw'); (try go_split_ands); go_simp; exact hK)) ?_
    refine wpOrd_rd rfl rfl (by first | decide | simp) (by assumption) (fun w' hw' K hK => by ((try unfold Same at hw'); (try go_split_ands); go_simp; exact hK)) ?_
    refine wpOrd_rd rfl rfl (by first | decide | simp) (by assumption) (fun w' hw' K hK => by ((try unfold Same at hw'); (try go_split_ands); go_simp; exact hK)) ?_
    refine wpOrd_rd rfl rfl (by first | decide | simp) (by assumption) (fun w' hw' K hK => by ((try unfold Same at hw'); (try go_split_ands); go_simp; exact hK)) ?_
    refine wpOrd_rd rfl rfl (by first | decide | simp) (by assumption) (fun w' hw' K hK => by ((try unfold Same at hw'); (try go_split_ands); go_simp; exact hK)) ?_
    refine wpOrd_rd rfl rfl (by first | decide | simp) (by assumption) (fun w' hw' K hK => by ((try unfold Same at hw'); (try go_split_ands); go_simp; exact hK)) ?_
    refine wpOrd_rd rfl rfl (by first | decide | simp) (by assumption) (fun w' hw' K hK => by ((try unfold Same at hw'); (try go_split_ands); go_simp; exact hK)) ?_
    refine wpOrd_nil ?_
    go_wp2_with fail
    go_ret
    exact ⟨rfl, (Chg.refl _ _).drew⟩

theorem own_two {B : Nat} {wr w2 : World} {e : TypeId} {size n : Nat} {v : Value} {xs : List Value} (hO : wr.ownsRow B e size v n xs) (o : Obj) (hc2 : Chg (OneB wr.heap.size) (wr.alloc o) w2) (o2 : Obj) : (w2.alloc o2).ownsRow B e size v n xs :=
  World.ownsRow.alloc (ownsRow.chg (World.ownsRow.alloc hO o) hc2 (fun i hi x => by have h' : i = wr.heap.size := x; have := (OwnB.ge hO i hi).2; omega)) _
set_option maxRecDepth 100000 in
theorem data_calls (g m c : Nat) (PL : List Pg) (post : List Value) (t : TypeId) (w : World) (hg : w.heap[g]? = some (.cells (pgsC PL ++ post).toArray t (0, 0))) (hl : PL.length = m) (hc : m ≤ c) (h8 : m ≤ 8) :
    Calls Try.prog 41 #[.slice (some ⟨g, 0, none⟩) m c] w fun e w' => ∃ vo, e = .returned vo ∧ Hid (w'.ownsRow w.heap.size 9 1 vo m (PL.map (fun p => Value.string p.data))) ∧ Hid (Chg NoB w w') := by
  have HG := hid hg
  clear hg
  subst hl
  go_enter Try.func41, Try.ntmps41
  go_wp2
  go_loopw [2, 7] (fun o i wr => ∃ k : Nat, k ≤ PL.length ∧ i = .int .i64 k ∧ Hid (Chg NoB w wr) ∧ Hid (wr.ownsRow w.heap.size 9 1 o k ((PL.take k).map (fun p => Value.string p.data)))) (fun _ i _ => PL.length - (intOf i).toNat)
  case atStart => exact ⟨0, by omega, rfl, Chg.refl _ _, World.ownsRow_nil _ _ _ _⟩
  case round =>
    obtain ⟨k, hk, rfl, hc, hO⟩ := hrel
    by_cases hlt : k < PL.length
    · obtain ⟨q, hq⟩ := named PL[k]
      obtain ⟨d1, d2⟩ := pg_cells (pre := []) (post := post) (w := wr) (by simpa using hc.out.heap HG.out nob) k hlt
      simp only [List.length_nil, Nat.zero_add] at d1 d2
      have hcs : Hid (∀ j v, (encP q)[j]? = some v → wr.cell? ⟨g, k * 2 + j, none⟩ = some v) := hid (by
        rw [← hq.out] at d1 d2
        intro j v hv
        match j, hv with
        | 0, hv => cases hv; exact d1
        | 1, hv => cases hv; exact d2)
      have hT : Hid ((PL.take (k + 1)).map (fun p => Value.string p.data) = (PL.take k).map (fun p => Value.string p.data) ++ [.string q.data]) := hid (by rw [take_snoc' hlt, hq.out, List.map_append]; rfl)
      obtain ⟨ao, co, rfl⟩ := ownsForm hO.out
      clear d1 d2
      go_wp2_with (first
        | ((fail_if_success (fail_if_success (with_reducible change wpList _ _ _ (Oper.mk _ (.load 48 _) _ _ _ _ :: _) _ _))); refine step_loadAt rfl rfl g (k * 2) rfl (encP q) hcs.out Try.underlying48 (by kernel_rfl) ?_)
        | ((fail_if_success (fail_if_success (with_reducible change wpList _ _ _ (Oper.mk _ (.store 48 _ _) _ _ _ _ :: _) _ _))); refine step_storeRow rfl rfl wr.heap.size rfl rfl (blk_new _ _) (by kernel_rfl) rfl (by simp [encP, Value.oneCell']) ?_; intro w2 hb2 hc2 hs2; have e1 : w2.cell? ⟨wr.heap.size, 1, none⟩ = some (.string q.data) := (by rw [cell_blk hb2]; rfl))
        | (at_builtin; refine step_app1 slStr rfl _ _ rfl (own_two hO.out _ hc2 _) rfl (wr.heap.size + 1) [.string q.data] rfl (by rw [show wr.heap.size + 1 = w2.heap.size by rw [hs2]; simp]; exact blk_new _ _) rfl rfl (by simp [Value.oneCell']) (by omega) (by unfold maxLen; omega) (by have := hc.out.size; simp at hs2; simp; omega) ?_; intro v5 w5 hv5 hc5 hvo hnil))
      obtain ⟨a5, n5, rfl⟩ := ownsForm hv5
      have HV := hid hv5
      have hcW : Chg NoB w w2 := (hc.out.alloc _).new hc2 (fun i x => by have h' : i = wr.heap.size := x; have := hc.out.size; omega)
      have HC := hid ((hcW.alloc (.cells #[.string q.data] 9)).trans hc5 (fun i hi => .inr (OwnB.ge hO.out i hi).1))
      clear hv5 hc5 hvo hnil
      go_wp2_with fail
      go_roundw
      case rel => exact ⟨k + 1, by omega, by go_num, HC, hid (by rw [hT.out]; exact HV.out)⟩
      case measure => simp [intOf]; omega
    · obtain rfl : k = PL.length := by omega
      rw [List.take_length] at hO
      obtain ⟨ao, co, rfl⟩ := ownsForm hO.out
      go_wp2_with fail
      go_ret
      exact ⟨_, rfl, hO, hc⟩

set_option maxRecDepth 100000 in
theorem pages_calls (w0 : World) (p g rl : Nat) (lv : Value) (s : SS) (w : World) (h : StAt w0 w p g rl lv s) :
    Calls Try.prog 21 #[.pointer (some ⟨p, 0, none⟩)] w fun e w' => ∃ vo, e = .returned vo ∧ Hid (w'.ownsRow w.heap.size 9 1 vo s.pg.length (s.pg.map (fun p => Value.string p.data))) ∧ Hid (Chg NoB w w') := by
  obtain ⟨c0, c1, c2⟩ := h.cells
  have hg := h.pgs
  have h8 := h.l8
  obtain ⟨m, hm⟩ := named s.pg.length
  rw [← hm.out] at c0 h8 ⊢
  have HG := hid hg
  clear h hg c1 c2
  go_enter Try.func21, Try.ntmps21
  go_wp2_with (go_at_call 41; refine (data_calls g m m s.pg [] _ _ (by simpa using HG.out) hm.out.symm (Nat.le_refl _) h8).mono ?_; rintro en w1 ⟨vo, rfl, hO, hc⟩)
  go_ret
  exact ⟨_, rfl, hO, hc⟩
end Go.Proofs.Ytekjchphlphecaa

namespace Go.Proofs.Ytekjchphlphecaa
open Go.RowKit Go.ChangeMaps Go.MapKept
set_option linter.unusedVariables false
set_option linter.unusedSimpArgs false
set_option maxHeartbeats 8000000

theorem repC_pgs (n : Nat) (q : Pg) : repC n q = pgsC (List.replicate n q) := rfl
set_option maxRecDepth 100000 in
theorem new_ok (n : Nat) (h1 : 1 ≤ n) (h8 : n ≤ 8) (w : World) :
    Calls Try.prog 7 #[.int .i64 n] w fun e w' => ∃ p g rl, e = .returned (.tuple #[.pointer (some ⟨p, 0, none⟩), .int .i64 0]) ∧ Hid (StAt w w' p g rl (.slice none 0 0) (sNew n)) ∧ Hid (Chg NoB w w') := by
  have hmm := @run_makeMap Try.prog
  have e1 : ¬ (n : Int) < 1 := by omega
  have e2 : ¬ (8 : Int) < (n : Int) := by omega
  go_enter Try.func7, Try.ntmps7
  go_wp2_with (first
    | (go_at_call 25; refine (empty_calls _).mono ?_; rintro en w1 ⟨rfl, hc1⟩; simp only [Pg.val])
    | (go_at_call 24; refine (repeatN w1.heap.size n Pg.empty _ (blk_new _ _) h1 h8).mono ?_; rintro en w2 ⟨g, rfl, hg2, hc2, hl2⟩))
  have hz1 := hc1.size
  have hz2 := hc2.size
  simp only [World.size_alloc] at hz2 hl2
  have hgl := lt_of_block hg2
  go_ret2
  refine ⟨_, g, w2.heap.size, rfl, ⟨?_, ?_, ?_, OwnE.nil _ _ _, ?_, ?_, ?_, ?_, ?_⟩, (((hc1.alloc _).trans' hc2).alloc _).alloc _⟩
  · have := blk_new (w2.alloc (.map #[] 0)) (.cells #[.slice (some ⟨g, 0, none⟩) n n, .slice none 0 0, .map (some w2.heap.size)] 68)
    rw [World.size_alloc] at this
    simpa [sNew] using this
  · exact blk_alloc (blk_alloc (by rw [repC_pgs] at hg2; exact hg2) _) _
  · exact ⟨#[], 0, blk_alloc (blk_new _ _) _, by simp [Stamped], rfl⟩
  · refine ⟨by omega, by omega, by omega, ?_, ?_, ?_⟩ <;> simp [OwnB, Value.ownBlock]
  · exact ⟨by omega, by omega, by omega⟩
  · simp [sNew]; omega
  · intro q hq
    rw [List.eq_of_mem_replicate hq]
    simp [Pg.empty, ByteArray.size]
  · simp [sNew]
set_option maxRecDepth 100000 in
theorem new_bad (n : Int) (h : n < 1 ∨ 8 < n) (w : World) :
    Calls Try.prog 7 #[.int .i64 n] w fun e w' => e = .returned (.tuple #[.pointer none, .int .i64 1]) ∧ Chg NoB w w' := by
  by_cases h1 : n < 1
  · go_enter Try.func7, Try.ntmps7
    go_wp2
    go_ret2
    exact ⟨rfl, Chg.refl _ _⟩
  · have h2 : 8 < n := by omega
    go_enter Try.func7, Try.ntmps7
    go_wp2
    go_ret2
    exact ⟨rfl, Chg.refl _ _⟩
end Go.Proofs.Ytekjchphlphecaa
