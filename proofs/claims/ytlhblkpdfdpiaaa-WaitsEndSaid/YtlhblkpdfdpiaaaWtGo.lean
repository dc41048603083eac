import Derived.Test.YtlhblkpdfdpiaaaWtG
namespace Go.Proofs.Ytlhblkpdfdpiaaa.Wt
open Go.RowKit Go.ChangeMaps Go.MapKept
attribute [local go_sem] Go.Oper.rdK
set_option linter.unusedVariables false
set_option linter.unusedSimpArgs false
set_option linter.unnecessarySimpa false
set_option maxHeartbeats 8000000

theorem GAt.row_at {w0 w : World} {r : Nat} {m : List (Int × Value)} {dn : Int → Bool} {e : Edges} (h : GAt w0 w r m dn e) {a : Int} (hd : dn a = false) {v : Value} (hv : v = (mget m a).getD (.slice none 0 0)) :
    w.ownsRow w0.heap.size 3 1 v (raw e a).length ((raw e a).map (Value.int .i64)) ∧ ∀ b, OwnB v b → b ≠ r ∧ w0.heap.size ≤ b ∧ b < w.heap.size := by
  rcases mget_cases m a with ⟨h1, h2⟩ | ⟨u, h1, h2⟩
  · rw [h1] at hv
    have hv : v = .slice none 0 0 := hv
    subst hv
    rw [h.dom a h2]
    exact ⟨World.ownsRow_nil _ _ _ _, fun b hb => by simp [OwnB, Value.ownBlock] at hb⟩
  · rw [h1] at hv
    have hv : v = u := hv
    subst hv
    exact ⟨(h.row _ h2).1 hd, fun b hb => ⟨h.off _ h2 b hb, h.own _ h2 b hb⟩⟩
theorem GAt.dn {w0 w : World} {r : Nat} {m : List (Int × Value)} {dn dn' : Int → Bool} {e : Edges} (h : GAt w0 w r m dn e) (hd : ∀ p ∈ m, dn' p.1 = dn p.1) : GAt w0 w r m dn' e :=
  ⟨h.map, h.dom, fun p hp => by rw [hd p hp]; exact h.row p hp, h.off, h.sep, h.ge, h.chg⟩
theorem mget_at {ν : Type} {m : List (Int × ν)} (hn : (m.map (·.1)).Nodup) {k : Int} {v : ν} (h : (k, v) ∈ m) : mget m k = some v := by
  obtain ⟨j, hj, e⟩ := List.getElem_of_mem h
  exact mget_of hn (by rw [List.getElem?_eq_getElem hj, e])
/-- The keys are all that edges name. -/
def KeysOf (m : List (Int × Value)) (e : Edges) : Prop := ∀ z, z ∈ m.map (·.1) ↔ z ∈ nm e
def dnT (todo : List (Int × Value)) (z : Int) : Bool := !(todo.any fun p => p.1 == z)
theorem _root_.Go.Proofs.Ytlhblkpdfdpiaaa.RangeI.sub {ν : Type} {V : ν → Value} {r it : Nat} {m todo : List (Int × ν)} {w : World} (h : RangeI w it r V m todo) : todo.Sublist m := by
  obtain ⟨_, _, _, _, _, _, _, _, _, _, _, _, _, hs⟩ := h
  exact hs
theorem GAt.keepS {w0 w w' : World} {r : Nat} {m : List (Int × Value)} {dn : Int → Bool} {e : Edges} {S : Nat → Prop} (h : GAt w0 w r m dn e) (hc : Chg S w w') (h1 : ¬ S r) (h2 : ∀ p ∈ m, ∀ b, OwnB p.2 b → ¬ S b) (h3 : ∀ k, S k → w0.heap.size ≤ k) : GAt w0 w' r m dn e :=
  ⟨h.map.chg hc h1, h.dom, fun p hp => ⟨fun hd => ownsRow.chg ((h.row p hp).1 hd) hc (h2 p hp), fun hd => ownsRow.chg ((h.row p hp).2 hd) hc (h2 p hp)⟩, h.off, h.sep, h.ge, h.chg.trans hc (fun k hk => .inr (h3 k hk))⟩

set_option maxRecDepth 100000 in
theorem graphOf_calls (w : World) (v : Value) (l : Edges) (hv : Rd w 2 encE v l) (hl : l.length ≤ 1000) :
    Calls Try.prog 22 #[v] w fun e w' => ∃ r m, e = .returned (.map (some r)) ∧ Hid (GAt w w' r m (fun _ => true) l ∧ KeysOf m l) := by
  obtain ⟨a, c, rfl, q1, q2, hr⟩ := hv
  unfold maxLen at q2
  have HR := hid hr
  clear hr
  have hmm := @run_makeMap Try.prog
  go_enter Try.func22, Try.ntmps22
  go_wp2_with fail
  obtain ⟨r, hr0⟩ := named w.heap.size
  have hG0 : Hid (∃ m, GAt w (w.alloc (.map #[] 0)) r m (fun _ => false) (l.take 0) ∧ KeysOf m (l.take 0)) := hid ⟨[], ⟨by rw [hr0.out]; exact MapI.made w GV, fun z _ => rfl, by simp, by simp, by simp, by rw [hr0.out]; exact Nat.le_refl _, (Chg.refl _ _).alloc _⟩, fun z => by simp [nm, uset]⟩
  rw [← hr0.out]
  clear hmm
  go_loopw [12] (fun i wr => ∃ k : Nat, k ≤ l.length ∧ i = .int .i64 k ∧ Hid (∃ m, GAt w wr r m (fun _ => false) (l.take k) ∧ KeysOf m (l.take k))) (fun i _ => l.length - (intOf i).toNat)
  case atStart => exact ⟨0, by omega, rfl, hG0⟩
  case round =>
    obtain ⟨k, hk, rfl, hI⟩ := hrel
    clear hG0
    obtain ⟨m, hG, hK⟩ := hI.out
    have HG := hid hG
    have HK := hid hK
    clear hI hK
    by_cases hlt : k < l.length
    · obtain ⟨⟨a1, b1⟩, hx⟩ := named l[k]
      obtain ⟨b, off, ha, h2⟩ := Rd.cells HR.out hG.chg k hlt
      rw [← hx.out] at h2
      subst ha
      have g0 := h2 0 _ rfl
      have g1 := h2 1 _ rfl
      simp only [Nat.add_zero] at g0
      obtain ⟨O, hO⟩ := named (Obj.cells #[.int .i64 a1, .int .i64 b1] 50)
      have HG1 : Hid (GAt w (wr.alloc (.cells #[.int .i64 a1, .int .i64 b1] 50)) r m (fun _ => false) (l.take k)) := hid (HG.out.keep ((Chg.refl NoB wr).alloc _))
      obtain ⟨sv, hsv⟩ := named ((mget m a1).getD (.slice none 0 0))
      have HL := look_any (P := Try.prog) (V := GV) Try.underlying55 Try.underlying3 HG1.out.map zero_ints a1 false (res := sv) (by rw [hsv.out]; cases mget m a1 <;> rfl)
      obtain ⟨hrow, hso⟩ := HG1.out.row_at (a := a1) rfl hsv.out
      have HROW := hid hrow
      have HSO := hid hso
      have hrl := raw_len (l.take k) a1
      have htl : (l.take k).length ≤ l.length := by rw [List.length_take]; omega
      have hge := HG1.out.chg.size
      obtain ⟨ob, hob⟩ := named wr.heap.size
      have hwl : (wr.alloc (.cells #[.int .i64 a1, .int .i64 b1] 50)).heap.size = ob + 1 := by simp [hob.out]
      have HWL := hid hwl
      have hobs : Hid (∀ b, OwnB sv b → b ≠ ob) := hid (fun b hb e => by
        have h9 := (HG.out.row_at (a := a1) rfl hsv.out).2 b hb
        rw [e, hob.out] at h9; omega)
      have d0 : (wr.alloc (.cells #[.int .i64 a1, .int .i64 b1] 50)).cell? ⟨ob, 0, none⟩ = some (.int .i64 a1) := by rw [hob.out, cell_blk (blk_new _ _)]; rfl
      have d1 : (wr.alloc (.cells #[.int .i64 a1, .int .i64 b1] 50)).cell? ⟨ob, 1, none⟩ = some (.int .i64 b1) := by rw [hob.out, cell_blk (blk_new _ _)]; rfl
      have D0 := hid d0
      have D1 := hid d1
      clear hG h2 hrow hso hwl d0 d1
      go_upto_region 5 with fail
      rw [← hob.out]
      refine wp_gen (fun W => W = wr.alloc (.cells #[.int .i64 a1, .int .i64 b1] 50)) rfl ?_
      intro W hW
      have HW := hid hW
      rw [← hW] at HG1 HL HROW HSO HWL D0 D1 hge
      clear hW
      have d0 := D0.out
      have d1 := D1.out
      refine wp_region_ord 11 (.rd 0 (.rd 1 (.rd 2 (.rd 3 (.rd 4 (.rd 5 (.rd 6 (.rd 7 (.rd 8 (.one 9 (.one 10 (.one 11 (.done))))))))))))) (fun w' => w'.cell? ⟨ob, 0, none⟩ = some (.int .i64 a1) ∧ w'.cell? ⟨ob, 1, none⟩ = some (.int .i64 b1) ∧ (Instr.lookup 55 (.map (some r)) (.int .i64 a1) false).run Try.prog w' = .ok sv w') (by kernel_rfl) (by kernel_rfl) (by kernel_rfl) (by kernel_rfl) (by kernel_rfl) (fun _ _ d _ _ h => by cases d <;> exact h) (⟨D0.out, D1.out, HL.out _ (Chg.refl _ _).drew⟩) (fun hS0 => ?_)
      refine wpOrd_rd rfl rfl (by first | decide | simp) (by assumption) (fun w' hw' K hK => by ((try unfold Same at hw'); (try go_split_ands); go_simp; exact hK)) ?_
      refine wpOrd_rd rfl rfl (by first | decide | simp) (by assumption) (fun w' hw' K hK => by ((try unfold Same at hw'); (try go_split_ands); go_simp; exact hK)) ?_
      refine wpOrd_rd rfl rfl (by first | decide | simp) (by assumption) (fun w' hw' K hK => by ((try unfold Same at hw'); (try go_split_ands); go_simp; exact hK)) ?_
      refine wpOrd_rd rfl rfl (by first | decide | simp) (by assumption) (fun w' hw' K hK => by ((try unfold Same at hw'); (try go_split_ands); go_simp; exact hK)) ?_
      refine wpOrd_rd rfl rfl (by first | decide | simp) (by assumption) (fun w' hw' K hK => by ((try unfold Same at hw'); (try go_split_ands); go_simp; exact hK)) ?_
      refine wpOrd_rd rfl rfl (by first | decide | simp) (by assumption) (fun w' hw' K hK => by ((try unfold Same at hw'); (try go_split_ands); go_simp; exact hK)) ?_
      refine wpOrd_rd rfl rfl (by first | decide | simp) (by assumption) (fun w' hw' K hK => by ((try unfold Same at hw'); (try go_split_ands); go_simp; exact hK)) ?_
      refine wpOrd_rd rfl rfl (by first | decide | simp) (by assumption) (fun w' hw' K hK => by ((try unfold Same at hw'); (try go_split_ands); go_simp; exact hK)) ?_
      refine wpOrd_rd rfl rfl (by first | decide | simp) (by assumption) (fun w' hw' K hK => by ((try unfold Same at hw'); (try go_split_ands); go_simp; exact hK)) ?_
      refine wpOrd_do rfl ?_
      (first | refine wpList_plain rfl (fun K hK => ?_) | refine wpList_step (fun K hK => ?_))
      go_simp
      refine hK _ _ ?_
      clear hK K
      (try dsimp only [Act.put])
      refine wpOrd_done (⟨((Chg.refl NoB W).drew.alloc _).cell D0.out nob, ((Chg.refl NoB W).drew.alloc _).cell D1.out nob, HL.out _ ((Chg.refl NoB W).drew.alloc _)⟩) (fun hS1 => ?_)
      refine wpOrd_do rfl ?_
      refine step_app1 slInt rfl _ _ rfl (World.ownsRow.alloc (ownsRow.chg HROW.out (Chg.refl NoB W).drew (fun _ _ => nob)) _) rfl W.heap.size [.int .i64 b1] rfl (blk_new _ _) rfl rfl (by simp [Value.oneCell']) (by omega) (by unfold maxLen; omega) (by simp; omega) ?_; intro v5 w5 hv5 hc5 hn5 hnil
      have HC5 : Hid (Chg (OwnB sv) W w5) := hid (((Chg.refl (OwnB sv) W).drew.alloc _).trans' hc5)
      (try dsimp only [Act.put])
      (try simp only [List.setIfInBounds_toArray, List.set_cons_zero, List.set_cons_succ])
      refine wpOrd_done (⟨HC5.out.cell D0.out (fun h => hobs.out _ h rfl), HC5.out.cell D1.out (fun h => hobs.out _ h rfl), by have h9 := (HG1.out.map.chg HC5.out (fun h => (HSO.out _ h).1 rfl)).lookup (P := Try.prog) Try.underlying55 Try.underlying3 (zero_ints _) a1 false; rw [h9, hsv.out]; cases mget m a1 <;> rfl⟩) (fun hS2 => ?_)
      refine wpOrd_do rfl ?_
      refine step_mapUpdate (HG1.out.map.chg HC5.out (fun h => (HSO.out _ h).1 rfl)) rfl _ _ _ 55 3 24 rfl Try.underlying55 Try.underlying3 a1 v5 rfl rfl rfl ?_; intro w6 hm6 hc6 hs6
      (try dsimp only [Act.put])
      refine wpOrd_last ?_
      refine wpOrd_nil ?_
      have hrl2 : r < ob := by have := HG.out.map.lt; rw [hob.out]; exact this
      have hoW : ob < W.heap.size := by rw [HWL.out]; omega
      have hv5r : ∀ i, OwnB v5 i → i ≠ r := fun i hi => (hn5 i hi).elim (fun h => (HSO.out i h).1) (fun h => by simp at h; omega)
      have htk : l.take (k + 1) = l.take k ++ [(a1, b1)] := by rw [List.take_succ_eq_append_getElem hlt, hx.out]
      have HG6 : Hid (GAt w w6 r (mput m a1 v5) (fun _ => false) (l.take (k + 1))) := hid (by
        rw [htk]
        refine HG1.out.upd hsv.out.symm (S := fun k => k = r ∨ OwnB sv k) ((HC5.out.mono (fun k hk => .inl (.inr hk))).trans hc6 (fun k hk => .inl (.inl hk))) (fun k hk => hk) (fun i hi => (hn5 i hi).elim .inl (fun h => by simp at h; right; omega)) hm6 ⟨fun _ => ?_, fun h => by cases h⟩ (fun z hz => ⟨rfl, ?_⟩) (fun z hz => ?_)
        · rw [raw_snoc]
          have := ownsRow.chg hv5 hc6 (fun i hi e => hv5r i hi e)
          simpa using this
        · rw [raw_snoc, if_neg (by simpa using fun e => hz e.symm), List.append_nil]
        · have hz2 : ¬ (z ∈ m.map (·.1) ∨ z = a1) := fun h => hz ((mput_key z).2 h)
          rw [raw_snoc, if_neg (by simpa using fun e => hz2 (.inr e.symm)), List.append_nil]
          exact HG1.out.dom z (fun h => hz2 (.inl h)))
      have HK6 : Hid (∀ z, (z ∈ (mput m a1 v5).map (·.1) ∨ z = b1) ↔ z ∈ nm (l.take (k + 1))) := hid (fun z => by
        rw [htk, nm_snoc, mput_key, HK.out z]
        constructor
        · rintro ((h | h) | h)
          · exact .inl h
          · exact .inr (.inl h)
          · exact .inr (.inr h)
        · rintro (h | h | h)
          · exact .inl (.inl h)
          · exact .inl (.inr h)
          · exact .inr h)
      have f1 : w6.cell? ⟨ob, 1, none⟩ = some (.int .i64 b1) := hc6.cell (HC5.out.cell D1.out (fun h => hobs.out _ h rfl)) (fun e => by have h' : ob = r := e; omega)
      have f0 : w6.cell? ⟨ob, 0, none⟩ = some (.int .i64 a1) := hc6.cell (HC5.out.cell D0.out (fun h => hobs.out _ h rfl)) (fun e => by have h' : ob = r := e; omega)
      clear hm6 hc6 hs6 hv5 hc5 hn5 hnil hv5r htk g0 g1 hS0 hS1 hS2 d0 d1 HG1 HL HROW HSO HC5 HWL D0 D1 hge
      rcases mget_cases (mput m a1 v5) b1 with ⟨h1, h2⟩ | ⟨u, h1, h2⟩
      · have H1 := hid h1
        have H2 := hid h2
        clear h1 h2
        go_wp2_with (first
          | (at_lookup; refine step_lookup HG6.out.map rfl _ _ 55 3 24 true rfl Try.underlying55 Try.underlying3 (zero_ints _) b1 rfl rfl ?_; rw [H1.out]; simp only [Option.map_none, Option.getD_none, Option.isSome_none, if_true])
          | (at_mapUpdate; refine step_mapUpdate HG6.out.map rfl _ _ _ 55 3 24 rfl Try.underlying55 Try.underlying3 b1 (.slice none 0 0) rfl rfl rfl ?_; intro w7 hm7 hc7 hs7))
        go_roundw
        case rel =>
          refine ⟨k + 1, by omega, by go_num, hid ⟨mput (mput m a1 v5) b1 (.slice none 0 0), ?_, fun z => by rw [mput_key]; exact HK6.out z⟩⟩
          refine HG6.out.upd (v := .slice none 0 0) (by rw [H1.out]; rfl) hc7 (fun k hk => .inl hk) (fun i hi => by simp [OwnB, Value.ownBlock] at hi) hm7 ⟨fun _ => ?_, fun h => by cases h⟩ (fun z hz => ⟨rfl, rfl⟩) (fun z hz => ?_)
          · rw [HG6.out.dom b1 H2.out]
            exact World.ownsRow_nil _ _ _ _
          · exact HG6.out.dom z (fun h => hz ((mput_key z).2 (.inl h)))
        case measure => simp [intOf]; omega
      · have H1 := hid h1
        have H2 := hid (List.mem_map.2 ⟨_, h2, rfl⟩ : b1 ∈ (mput m a1 v5).map (·.1))
        clear h1 h2
        go_wp2_with (at_lookup; refine step_lookup HG6.out.map rfl _ _ 55 3 24 true rfl Try.underlying55 Try.underlying3 (zero_ints _) b1 rfl rfl ?_; rw [H1.out]; simp only [Option.map_some, Option.getD_some, Option.isSome_some, if_true])
        go_roundw
        case rel =>
          refine ⟨k + 1, by omega, by go_num, hid ⟨_, HG6.out, fun z => ?_⟩⟩
          rw [← HK6.out z]
          exact ⟨.inl, fun h => h.elim id fun e => by rw [e]; exact H2.out⟩
        case measure => simp [intOf]; omega
    · obtain rfl : l.length = k := by omega
      rw [List.take_length] at HG HK
      have HNI := hid HG.out.map.nodup
      go_wp2_with (at_range; refine step_range HG.out.map rfl _ 55 3 24 rfl Try.underlying55 rfl ?_; intro w1 hr1 hg1 hs1)
      go_frame
      obtain ⟨it, hit⟩ := named wr.heap.size
      have HIT : Hid (w.heap.size ≤ it ∧ r ≠ it) := hid ⟨by rw [hit.out]; exact HG.out.chg.size, by have := HG.out.map.lt; rw [hit.out]; omega⟩
      rw [← hit.out] at hr1 ⊢
      have hI0 : Hid (∃ m' todo, todo.length ≤ m.length ∧ RangeI w1 it r GV m' todo ∧ GAt w w1 r m' (dnT todo) l ∧ KeysOf m' l ∧ ∀ p ∈ m', ∀ b, OwnB p.2 b → b ≠ it) := hid ⟨m, m, Nat.le_refl _, hr1, (HG.out.keep hg1).dn (fun p hp => by unfold dnT; simp only [Bool.not_eq_false']; rw [List.any_eq_true]; exact ⟨p, hp, by simp⟩), HK.out, fun p hp b hb e => by have := (HG.out.own p hp b hb).2; rw [e, hit.out] at this; omega⟩
      clear hr1 hg1 hs1
      go_loopg [] m.length (fun k wr => Hid (∃ m' todo, todo.length ≤ k ∧ RangeI wr it r GV m' todo ∧ GAt w wr r m' (dnT todo) l ∧ KeysOf m' l ∧ ∀ p ∈ m', ∀ b, OwnB p.2 b → b ≠ it))
      case atStart => exact hI0
      case round =>
        clear hI0
        obtain ⟨m', todo, hk, hr, hG, hK, hO⟩ := hrel.out
        have HGm := hid hG
        have HKm := hid hK
        have HOm := hid hO
        clear hrel hG hK hO
        go_wp2_with (at_next; refine step_next hr rfl _ rfl rfl ?_ ?_)
        · intro h0
          go_wp2
          go_ret
          subst h0
          exact ⟨r, m', rfl, hid ⟨HGm.out.dn (fun p hp => rfl), HKm.out⟩⟩
        · intro x v todo' w2 hmem hp hsub hr2 hg2 hs2 hen
          have hl2 : todo'.length < gk := by have := hp.length_eq; simp at this; omega
          have hnd : (todo.map (·.1)).Nodup := List.Nodup.sublist (hr.sub.map _) hr.map.nodup
          have hno : x ∉ todo'.map (·.1) := by
            have := (hp.map (·.1)).nodup_iff.1 hnd
            rw [List.map_cons, List.nodup_cons] at this
            exact this.1
          have hd0 : dnT todo x = false := by
            unfold dnT
            rw [Bool.not_eq_false', List.any_eq_true]
            exact ⟨(x, v), hp.mem_iff.2 (by simp), by simp⟩
          have HG2 : Hid (GAt w w2 r m' (dnT todo) l) := hid (HGm.out.keepS hg2 HIT.out.2 (fun p hp b hb => HOm.out p hp b hb) (fun k hk => by have h' : k = it := hk; rw [h']; exact HIT.out.1))
          have HX : Hid (mget m' x = some v) := hid (mget_at hr.map.nodup hmem)
          have HNO := hid hno
          have HIN : Hid (x ∈ m'.map (·.1)) := hid (List.mem_map.2 ⟨_, hmem, rfl⟩)
          have HVO : Hid (∀ b, OwnB v b → b ≠ r ∧ b ≠ it) := hid (fun b hb => ⟨HG2.out.off _ hmem b hb, HOm.out _ hmem b hb⟩)
          have hrow : w2.ownsRow w.heap.size 3 1 v (raw l x).length ((raw l x).map (Value.int .i64)) := (HG2.out.row _ hmem).1 hd0
          have HROW := hid hrow
          obtain ⟨ra, rc, hvv⟩ := ownsForm hrow
          subst hvv
          have HR2 := hid hr2
          have HP := hid hp
          have hrl := raw_len l x
          have HD0 := hid hd0
          have HMEM := hid hmem
          clear hrow hno hnd hd0 hmem hp hr hg2 hs2 hsub hr2
          go_wp2_with (first
            | (at_lookup; refine step_lookup HR2.out.map rfl _ _ 55 3 24 false rfl Try.underlying55 Try.underlying3 (zero_ints _) x rfl rfl ?_; rw [HX.out]; simp only [Option.map_some, Option.getD_some, Bool.false_eq_true, if_false, GV])
            | (go_at_call 43; refine (sort_own HROW.out (by omega)).mono ?_; rintro e w3 ⟨rfl, hs3, hc3⟩; have HS3 := hid hs3; have HC3 := hid hc3; have HR3 := hid (HR2.out.chg hc3 (fun h => (HVO.out _ h).1 rfl) (fun h => (HVO.out _ h).2 rfl)); clear hs3 hc3)
            | (at_lookup; refine step_lookup HR3.out.map rfl _ _ 55 3 24 false rfl Try.underlying55 Try.underlying3 (zero_ints _) x rfl rfl ?_; rw [HX.out]; simp only [Option.map_some, Option.getD_some, Bool.false_eq_true, if_false, GV])
            | (go_at_call 44; refine (compact_own HS3.out).mono ?_; rintro e w4 ⟨v', rfl, hs4, hc4, hn4, _, _, rfl⟩; have HS4 := hid hs4; have HC4 := hid hc4; have HN4 := hid hn4; have HR4 := hid (HR3.out.chg hc4 (fun h => (HVO.out _ h).1 rfl) (fun h => (HVO.out _ h).2 rfl)); clear hs4 hc4 hn4)
            | (at_mapUpdate; refine step_mapUpdateR HR4.out rfl _ _ _ 55 3 24 rfl Try.underlying55 Try.underlying3 x _ HIN.out HNO.out rfl rfl rfl ?_; intro w5 hr5 hc5 hs5))
          go_roundg todo'.length
          case measure => exact hl2
          case rel =>
            refine hid ⟨_, todo', Nat.le_refl _, hr5, ?_, fun z => ?_, fun p hp b hb => ?_⟩
            · refine HG2.out.upd (by rw [HX.out]; rfl) (S := fun k => k = r ∨ OwnB (.slice ra (raw l x).length rc) k) (((HC3.out.trans' HC4.out).mono (fun k hk => .inl (.inr hk))).trans hc5 (fun k hk => .inl (.inl hk))) (fun k hk => hk) (fun i hi => .inl (HN4.out i hi)) hr5.map ⟨fun h => ?_, fun _ => ?_⟩ (fun z hz => ⟨?_, rfl⟩) (fun z hz => ?_)
              · exfalso
                unfold dnT at h
                rw [Bool.not_eq_false', List.any_eq_true] at h
                obtain ⟨q, hq, he⟩ := h
                exact HNO.out (List.mem_map.2 ⟨q, hq, by simpa using he⟩)
              · have h9 := ownsRow.chg HS4.out hc5 (fun i hi e => (HVO.out i (HN4.out i hi)).1 e)
                rw [compact_sort] at h9
                simp only [compact_sort]
                exact h9
              · unfold dnT
                rw [HP.out.any_eq, List.any_cons]
                have h8 : (x == z) = false := by simpa using fun e : x = z => hz e.symm
                rw [h8, Bool.false_or]
              · exact HG2.out.dom z (fun h => hz ((mput_key z).2 (.inl h)))
            · rw [mput_key, ← HKm.out z]
              exact ⟨fun h => h.elim id fun e => by rw [e]; exact HIN.out, .inl⟩
            · rcases mput_mem p hp with rfl | ⟨h1, h2⟩
              · exact (HVO.out b (HN4.out b hb)).2
              · exact HOm.out p h1 b hb
end Go.Proofs.Ytlhblkpdfdpiaaa.Wt
