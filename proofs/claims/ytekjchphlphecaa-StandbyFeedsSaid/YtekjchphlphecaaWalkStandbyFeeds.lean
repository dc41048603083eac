import Derived.Test.YtekjchphlphecaaWalkStandbyPieces
namespace Go.Proofs.Ytekjchphlphecaa
open Go.RowKit Go.ChangeMaps Go.MapKept
attribute [local go_sem] Go.Oper.rdK
set_option linter.unusedVariables false
set_option linter.unusedSimpArgs false
set_option linter.unnecessarySimpa false
set_option maxHeartbeats 8000000

theorem opens_entss (w : World) : Opens Try.prog w 22 (fun (l : List (List Ent)) cs => ∃ v, cs = [v] ∧ RdR w 1 (fun (x : List Ent) cs => ∃ v, cs = [v] ∧ Ents w v x) v l) :=
  opens_slice (size := 1) Try.underlying22 (by kernel_rfl) (by decide) (opens_ents w)

/-- The program's standby, and the reference's, side by side. -/
structure SRI (w W : World) (p g rl : Nat) (lv : Value) (sa : SS) (q : Nat) (pv rv : Value) (sr : SS) : Prop where
  a : StAt w W p g rl lv sa
  r : RfAt w W q pv rv sr.pg sr.L
  dis : ∀ k, stFp p g rl lv k → ¬ rfFp q pv rv k
  chg : Chg NoB w W
theorem SRI.keep {w W W' : World} {p g rl q : Nat} {lv pv rv : Value} {sa sr : SS} (h : SRI w W p g rl lv sa q pv rv sr) (hc : Chg NoB W W') : SRI w W' p g rl lv sa q pv rv sr := ⟨h.a.keep0 hc, h.r.keep0 hc, h.dis, h.chg.trans' hc⟩
theorem SRI.feed {w W : World} {p g rl q : Nat} {lv pv rv : Value} {sa sr : SS} (h : SRI w W p g rl lv sa q pv rv sr) {v : Value} {l : List Ent} (hv : Ents w v l) (hok : ∀ x ∈ l, x.r.okk) (hl : sa.L.length + l.length ≤ 1000000) (n er : Int) (s' : SS) (hr : Hid ((n, er, s') = sFeed sa l)) :
    Calls Try.prog 11 #[.pointer (some ⟨p, 0, none⟩), v] W fun e w' => e = .returned (.tuple #[.int .i64 n, .int .i64 er]) ∧ ∃ lv', Hid (SRI w w' p g rl lv' s' q pv rv sr) :=
  (feed_calls w p g rl lv sa v l W h.chg h.a hv hok hl n er s' hr).mono fun e w' ⟨he, la', hI⟩ => ⟨he, la', hid ⟨hI.out.at_, h.r.keep hI.out.chg (fun k hk => ⟨h.dis k hk, .inl (h.a.fp k hk)⟩), fun k hk hb => by
    rcases hk with h1 | h1 | h1 | h1
    · exact h.dis k (.inl h1) hb
    · exact h.dis k (.inr (.inl h1)) hb
    · exact h.dis k (.inr (.inr (.inl h1))) hb
    · rcases hI.out.new _ h1 with h2 | h2
      · exact h.dis k (.inr (.inr (.inr h2))) hb
      · have := h.r.fpl k hb; omega, hI.out.chg0 h.a h.chg⟩⟩
theorem SRI.feedR {w W : World} {p g rl q : Nat} {lv pv rv : Value} {sa sr : SS} (h : SRI w W p g rl lv sa q pv rv sr) {v : Value} {l : List Ent} (hv : Ents w v l) (hok : ∀ x ∈ l, x.r.okk) (hl : sr.L.length + l.length ≤ 1000000) (n er : Int) (s' : SS) (hr : Hid ((n, er, s') = sFeed sr l)) :
    Calls Try.prog 12 #[.pointer (some ⟨q, 0, none⟩), v] W fun e w' => e = .returned (.tuple #[.int .i64 n, .int .i64 er]) ∧ ∃ rv', Hid (SRI w w' p g rl lv sa q pv rv' s') :=
  (rFeed_calls w q pv rv sr v l W h.chg h.r hv hok hl n er s' hr).mono fun e w' ⟨he, rv', hI⟩ => ⟨he, rv', hid ⟨h.a.keep hI.out.chg (fun k hk => ⟨fun h2 => h.dis k h2 hk, .inl (h.r.fp k hk)⟩), hI.out.at_, fun k ha hk => by
    rcases hk with h1 | h1 | h1
    · exact h.dis k ha (.inl h1)
    · exact h.dis k ha (.inr (.inl h1))
    · rcases hI.out.new _ h1 with h2 | h2
      · exact h.dis k ha (.inr (.inr h2))
      · have := h.a.fpl k ha; omega, h.chg.trans hI.out.chg (fun k hk => .inr (h.r.fp k hk))⟩⟩
theorem RfAt.base {w w1 W : World} {q : Nat} {pv : Value} {P : List Pg} (h : RfAt w1 W q pv (.slice none 0 0) P []) (hz : w.heap.size ≤ w1.heap.size) : RfAt w W q pv (.slice none 0 0) P [] :=
  ⟨h.blk, ownsBase h.pgs hz, OwnE.nil _ _ _, h.ne, by have := h.ge; omega, h.l8, h.sz⟩
theorem ents_fit {w : World} {v : Value} {l : List Ent} (hv : Ents w v l) (hok : ∀ x ∈ l, x.r.okk) : ∀ x ∈ l, x.r.okk ∧ fits x.at_ := fun x hx => by
  refine ⟨hok x hx, ?_⟩
  obtain ⟨i, hi⟩ := List.getElem?_of_mem hx
  obtain ⟨_, _, _, _, _, h9⟩ := hv
  obtain ⟨cs, b, off, ⟨v1, v2, _, _, _, hf⟩, _⟩ := h9 i x hi
  exact hf

set_option maxRecDepth 100000 in
theorem standbyFeeds_walk (w : World) (a0 : Int) (wa0 : (Lit.int .i64 a0).wf = true) (vs : Value) (LS : List (List Ent)) (hvs : RdR w 1 (fun (x : List Ent) cs => ∃ v, cs = [v] ∧ Ents w v x) vs LS) (va : Value) (A : List Ent) (hva : Ents w va A) :
    Calls Try.prog 3 #[.int .i64 a0, vs, va] w fun e w' => e = .returned (.bool true) ∧ Chg NoB w w' := by
  obtain ⟨al, cl, rfl, hs1, hs2, hs3⟩ := hvs
  have HVS := hid hs3
  have HVA := hid hva
  unfold maxLen at hs2
  clear hs3 hva
  by_cases hp : a0 < 1 ∨ 8 < a0
  · have hpp : (a0 < 1 ∧ a0 ≤ 8) ∨ (¬ a0 < 1 ∧ 8 < a0) := by omega
    rcases hpp with ⟨p1, p2⟩ | ⟨p1, p2⟩
    all_goals
      go_enter Try.func3, Try.ntmps3
      go_wp2_with (first
        | (go_at_call 7; refine (new_bad a0 hp _).mono ?_; rintro e w1 ⟨rfl, c1⟩)
        | (go_at_call 8; refine (awake _).mono ?_; rintro e w2 ⟨rfl, c2⟩))
      go_ret
      exact ⟨rfl, c1.trans' c2⟩
  · obtain ⟨n, rfl⟩ := Int.eq_ofNat_of_zero_le (show 0 ≤ a0 by omega)
    have h1 : 1 ≤ n := by omega
    have h8 : n ≤ 8 := by omega
    have h1i : (1 : Int) ≤ (n : Int) := by omega
    have h8i : (n : Int) ≤ 8 := by omega
    clear hp
    obtain ⟨f1, hf1⟩ := named (entsFew A)
    obtain ⟨lc, hlc⟩ := named (decide (6 < LS.length))
    go_enter Try.func3, Try.ntmps3
    go_upto_region 4 with (first
      | (go_at_call 7; refine (new_ok n h1 h8 _).mono ?_; rintro e w1 ⟨p, g, rl, rfl, hS, hc⟩)
      | (go_at_call 8; refine (awake _).mono ?_; rintro e w2 ⟨rfl, c2⟩))
    by_cases hall : lc = false ∧ f1 = true
    · obtain ⟨rfl, rfl⟩ := hall
      have h6 : ¬ ((6 : Int) < (LS.length : Int)) := by have := hlc.out; simp at this; omega
      have h6n : LS.length ≤ 6 := by omega
      have hA2 := few_200 hf1.out
      go_upto_region 6 with (go_at_call 9; refine (entsFew_calls _ A _ (HVA.out.mono (hc.out.trans' c2)) _ hf1).mono ?_; rintro e w3 ⟨rfl, c3⟩)
      have HS3 := hid (hS.out.keep0 (c2.trans' c3))
      have HC3 := hid (hc.out.trans' (c2.trans' c3))
      clear hS hc c2 c3
      go_upto_region 7 with (go_at_call 10; refine (rNew_calls n h1 h8 _).mono ?_; rintro e w4 ⟨q, pv, rfl, hR, hc4⟩)
      have HT : Hid (SRI w w4 p g rl (.slice none 0 0) (sNew n) q pv (.slice none 0 0) (sNew n)) := hid ⟨HS3.out.keep0 hc4.out, hR.out.base HC3.out.size, fun k g1 g2 => by have := HS3.out.fpl k g1; have := hR.out.fp k g2; omega, HC3.out.trans' hc4.out⟩
      have hi0 : Hid (SInv (sNew n) ∧ (sNew n).pg.length = n ∧ (sNew n).L.length ≤ 0) := hid ⟨SInv.new n, by simp [sNew], by simp [sNew]⟩
      clear HS3 HC3 hR hc4
      go_wp2_with fail
      go_loopw [66] (fun i wr => ∃ (k : Nat) (lv rv : Value) (s : SS), k ≤ LS.length ∧ i = .int .i64 k ∧ Hid (SRI w wr p g rl lv s q pv rv s) ∧ Hid (SInv s ∧ s.pg.length = n ∧ s.L.length ≤ 60 * k)) (fun i _ => LS.length - (intOf i).toNat)
      case atStart => exact ⟨0, _, _, _, by omega, rfl, HT, hi0⟩
      case round =>
        obtain ⟨k, lv, rv, s, hk, rfl, hJ, hI⟩ := hrel
        clear HT hi0
        by_cases hlt : k < LS.length
        · obtain ⟨cs, cb, co, ⟨vl, rfl, hvl⟩, _, rfl, hcell⟩ := HVS.out k _ (List.getElem?_eq_getElem hlt)
          obtain ⟨l, hl⟩ := named LS[k]
          rw [← hl.out] at hvl
          have HVL := hid hvl
          obtain ⟨avl, acl, rfl, hvl1, hvl2, _⟩ := hvl
          have x0 : wr.cell? ⟨cb, co + k, none⟩ = some (.slice avl l.length acl) := hJ.out.chg.cell (by simpa using hcell 0 _ rfl) nob
          obtain ⟨f2, hf2⟩ := named (entsFew l)
          obtain ⟨bg, hbg⟩ := named (decide (60 < l.length))
          clear hcell
          by_cases hall2 : f2 = true ∧ bg = false
          · obtain ⟨rfl, rfl⟩ := hall2
            have h60 : ¬ ((60 : Int) < (l.length : Int)) := by have := hbg.out; simp at this; omega
            have h60n : l.length ≤ 60 := by omega
            have hok := hid (okk_of HVL.out hf2.out)
            have hsl : s.L.length ≤ 360 := by have := hI.out.2.2; omega
            have hbd : s.L.length + l.length ≤ 1000000 := by omega
            obtain ⟨⟨nn, er, s2⟩, hs2⟩ := named (sFeed s l)
            have HINV := hid (hI.out.1.feed (ents_fit HVL.out hok.out))
            have hpl2 : s2.pg.length = n := by have := sFeed_pg s l; rw [← hs2.out] at this; exact this.trans hI.out.2.1
            have HP2 := hid hpl2
            have hsl2 : s2.L.length ≤ 60 * (k + 1) := by have := sFeed_len s l; rw [← hs2.out] at this; have := hI.out.2.2; simp at *; omega
            have hp1 : 1 ≤ s2.pg.length := by omega
            have hs6 : s2.L.length ≤ 1000000 := by omega
            rw [← hs2.out] at HINV
            simp only at HINV
            obtain ⟨pr, hpr⟩ := named (promOf s2.L (rowsS s2.L) s2.pg)
            obtain ⟨ks, hks⟩ := named (((rowsS s2.L).map (·.1)).foldl insI [])
            obtain ⟨up, hup⟩ := named (sUpto s2.L)
            clear hpl2
            go_upto_region 12 with (go_at_call 9; refine (entsFew_calls _ l _ (HVL.out.mono hJ.out.chg) _ hf2).mono ?_; rintro e w5 ⟨rfl, c5⟩)
            have hJ5 := hid (hJ.out.keep c5)
            go_upto_region 13 with (go_at_call 11; refine (hJ5.out.feed HVL.out hok.out hbd nn er s2 hs2).mono ?_; rintro e w6 ⟨rfl, lv6, hJ6⟩)
            go_upto_region 14 with (go_at_call 12; refine (hJ6.out.feedR HVL.out hok.out hbd nn er s2 hs2).mono ?_; rintro e w7 ⟨rfl, rv7, HI⟩)
            clear hJ5 hJ6 c5 x0 hJ
            go_upto_region 16 with (first
              | (go_at_call 13; refine (upto_calls w p g rl lv6 s2 _ HI.out.a (by omega) up hup).mono ?_; rintro e wa ⟨rfl, ca⟩; have HI := hid (HI.out.keep ca))
              | (go_at_call 14; refine (rUpto_calls w q pv rv7 s2.pg s2.L _ HI.out.r (by omega) up hup).mono ?_; rintro e wb ⟨rfl, cb2⟩; have HI := hid (HI.out.keep cb2))
              | (go_at_call 16; refine (openS_calls w p g rl lv6 s2 _ HI.out.a HINV.out hs6 ks hks).mono ?_; rintro e wc2 ⟨vo1, rfl, ho1, cc2⟩; have HI := hid (HI.out.keep cc2.out))
              | (go_at_call 17; refine (rOpenS_calls w q pv rv7 s2.pg s2.L _ HI.out.r hs6 ks hks).mono ?_; rintro e wd ⟨vo2, rfl, ho2, cd⟩; have HI := hid (HI.out.keep cd.out); have ho1 := hid (ho1.out.mono cd.out))
              | (go_at_call 15; refine (refSame vo1 vo2 ks ks _ ho1.out ho2.out true (hid (by simp))).mono ?_; rintro e we ⟨rfl, q2, rfl⟩; have HI := hid (HI.out.keep ((Chg.refl NoB _).drewN q2))))
            go_upto_region 17 with (go_at_call 18; refine (promS_calls w p g rl lv6 s2 _ HI.out.a HINV.out hp1 hs6 pr hpr).mono ?_; rintro e wf ⟨b1, d1, rfl, hr1, cf⟩; have HI := hid (HI.out.keep cf.out))
            go_upto_region 18 with (go_at_call 19; refine (rPromS_calls w q pv rv7 s2 _ HI.out.r HINV.out hp1 hs6 pr hpr).mono ?_; rintro e wg ⟨b2, d2, rfl, hr2, cg⟩; have HI := hid (HI.out.keep cg.out); have hr1 := hid (hr1.out.mono cg.out))
            go_upto_region 20 with (go_at_call 20; refine (same16 (.slice b1 pr.1.length d1) (.slice b2 pr.1.length d2) _ _ _ hr1.out hr2.out true (hid (by simp))).mono ?_; rintro e wh ⟨rfl, q3, rfl⟩; have HI := hid (HI.out.keep ((Chg.refl NoB _).drewN q3)))
            go_wp2_with (go_at_call 21; refine (pagesS_calls w p g rl lv6 s2 _ HI.out.a).mono ?_; rintro e wi ⟨b3, d3, rfl, hpg, ci⟩; have HJ := hid (HI.out.keep ci.out))
            have hpv := HJ.out.r.cells.1
            obtain ⟨g', cap', post, epv, _, hgb, hcap', _⟩ := own_post HJ.out.r.pgs (by omega)
            rw [epv] at hpv
            have HG := hid hgb
            have HQ := hid hpv
            obtain ⟨_, _, ee, hg1, hg2, hpr3⟩ := hpg.out
            rw [List.length_map] at ee hg1 hg2
            cases ee
            have HR3 := hid hpr3
            have hI2 : Hid (SInv s2 ∧ s2.pg.length = n ∧ s2.L.length ≤ 60 * (k + 1)) := hid ⟨HINV.out, HP2.out, hsl2⟩
            unfold maxLen at hg2
            clear HI hpv hgb hpr3 epv ci hpg ho1 ho2 hr1 hr2
            go_loopw [135] (fun i wr => ∃ m : Nat, m ≤ s2.pg.length ∧ i = .int .i64 m ∧ Hid (Chg NoB wi wr)) (fun i _ => s2.pg.length - (intOf i).toNat)
            case atStart => exact ⟨0, by omega, rfl, Chg.refl _ _⟩
            case round =>
              obtain ⟨m, hm, rfl, hcm⟩ := hrel
              by_cases hml : m < s2.pg.length
              · obtain ⟨sb, so, rfl, hsc⟩ := Rd.str_at HR3.out m (by simpa using hml)
                rw [List.getElem_map] at hsc
                obtain ⟨d1', d2'⟩ := pg_cells (pre := []) (post := post) (w := wr) (by simpa using hcm.out.heap HG.out nob) m hml
                simp only [List.length_nil, Nat.zero_add] at d1' d2'
                obtain ⟨dt, hdt⟩ := named s2.pg[m].data
                rw [← hdt.out] at d2' hsc
                replace hsc := hcm.out.cell hsc nob
                have hq0 := hcm.out.cell HQ.out nob
                have hdd : (dt.toList == dt.toList) = true := by simp
                have hm0 : (0 : Int) ≤ (m : Int) := by omega
                have hm1 : (m : Int) < (s2.pg.length : Int) := by omega
                clear d1'
                go_wp2_with fail
                go_roundw
                case rel => exact ⟨m + 1, by omega, by go_num, hcm⟩
                case measure => simp [intOf]; omega
              · obtain rfl : m = s2.pg.length := by omega
                go_wp2_with fail
                go_roundw
                case rel => exact ⟨k + 1, lv6, rv7, s2, by omega, by go_num, hid (HJ.out.keep hcm.out), hI2⟩
                case measure => simp [intOf]; omega
          · have hcs : f2 = false ∨ (f2 = true ∧ bg = true) := by cases f2 <;> cases bg <;> simp_all
            clear hall2
            rcases hcs with rfl | ⟨rfl, rfl⟩
            · go_wp2_with (go_at_call 9; refine (entsFew_calls _ l _ (HVL.out.mono hJ.out.chg) _ hf2).mono ?_; rintro e w5 ⟨rfl, c5⟩)
              go_ret
              exact ⟨rfl, hJ.out.chg.trans' c5⟩
            · have h60 : (60 : Int) < (l.length : Int) := by have := hbg.out; simp at this; omega
              go_wp2_with (go_at_call 9; refine (entsFew_calls _ l _ (HVL.out.mono hJ.out.chg) _ hf2).mono ?_; rintro e w5 ⟨rfl, c5⟩)
              go_ret
              exact ⟨rfl, hJ.out.chg.trans' c5⟩
        · obtain rfl : k = LS.length := by omega
          obtain ⟨aa, ca, rfl, ha1, ha2, ha3⟩ : ∃ a c, va = .slice a A.length c ∧ A.length ≤ c ∧ A.length ≤ maxLen ∧ ∀ i x, A[i]? = some x → ∃ cs b off, EntAt w x cs ∧ cs.length = 12 ∧ a = some ⟨b, off, none⟩ ∧ ∀ j u, cs[j]? = some u → w.cell? ⟨b, off + i * 12 + j, none⟩ = some u := HVA.out
          have H3 := hid ha3
          have hsl : s.L.length ≤ 360 := by have := hI.out.2.2; omega
          obtain ⟨up, hup⟩ := named (sUpto s.L)
          clear ha3 hI
          go_wp2_with fail
          go_loopw [22, 154] (fun c i wr => ∃ (k : Nat) (cn : Nat), k ≤ A.length ∧ cn ≤ k ∧ i = .int .i64 k ∧ c = .int .i64 cn ∧ Hid (cn = (A.take k).countP (fun x => decide (up < x.at_))) ∧ Hid (SRI w wr p g rl lv s q pv rv s)) (fun _ i _ => A.length - (intOf i).toNat)
          case atStart => exact ⟨0, 0, by omega, by omega, rfl, rfl, rfl, hJ⟩
          case round =>
            obtain ⟨m, cn, hm, hcm, rfl, rfl, hcn, hK⟩ := hrel
            clear hJ
            by_cases hml : m < A.length
            · obtain ⟨x, b, off, v1, v2, hx, rfl, ht, hok, hE, hbl, hone⟩ := Ents.at H3.out hK.out.chg m hml
              obtain ⟨⟨a1, n1, rfl, _, _, _⟩, ⟨a2, n2, rfl, _, _, _⟩⟩ := ht
              obtain ⟨c0, q0, q1, q2, q3, q4, q5, q6, q7, q8, q9, q10⟩ := hE.cells
              have hcs := countP_snoc (fun x => decide (up < x.at_)) A m hml
              rw [hx.out, ← hcn.out] at hcs
              have HC := hid hcs
              clear hE hcs
              go_upto_region 31 with fail
              refine wp_gen (fun W => SRI w W p g rl lv s q pv rv s ∧ W.cell? ⟨wr.heap.size, 0, none⟩ = some (.int .i64 x.at_)) ⟨hK.out.keep ((Chg.refl NoB _).alloc _), by rw [cell_blk (blk_new _ _)]; rfl⟩ ?_
              rintro W ⟨hKW, e0⟩
              replace hKW := hid hKW
              obtain ⟨bb, hbb⟩ := named (decide (up < x.at_))
              have hd := hbb.out.symm
              refine wp_region_ord 5 (.rd 0 (.rd 1 (.rd 2 (.one 3 (.rd 4 (.done)))))) (Same W) (by kernel_rfl) (by kernel_rfl) (by kernel_rfl) (by kernel_rfl) (by kernel_rfl) (fun _ _ d _ _ h => by cases d <;> exact h) (Same.of (Chg.refl _ _).drew) (fun hS0 => ?_)
              refine wpOrd_rd rfl rfl (by first | decide | simp) (by assumption) (fun w' hw' K hK => by ((try unfold Same at hw'); (try go_split_ands); go_simp; exact hK)) ?_
              refine wpOrd_rd rfl rfl (by first | decide | simp) (by assumption) (fun w' hw' K hK => by ((try unfold Same at hw'); (try go_split_ands); go_simp; exact hK)) ?_
              refine wpOrd_rd rfl rfl (by first | decide | simp) (by assumption) (fun w' hw' K hK => by ((try unfold Same at hw'); (try go_split_ands); go_simp; exact hK)) ?_
              refine wpOrd_do rfl ?_
              (first | refine wpList_plain rfl (fun K hK => ?_) | refine wpList_step (fun K hK => ?_))
              go_simp
              ((with_reducible refine (rUpto_calls w q pv rv s.pg s.L _ (hKW.out.r.keep0 (Chg.refl NoB _).drew) (by omega) up hup).mono ?_); rintro e w2 ⟨rfl, hc2⟩)
              refine hK _ _ ?_
              clear hK K
              (try dsimp only [Act.put])
              refine wpOrd_done (Same.of ((Chg.refl NoB W).drew.trans' hc2)) (fun hS1 => ?_)
              refine wpOrd_rd rfl rfl (by first | decide | simp) (by assumption) (fun w' hw' K hK => by ((try unfold Same at hw'); (try go_split_ands); go_simp; exact hK)) ?_
              refine wpOrd_nil ?_
              have hK2 := hid (hKW.out.keep ((Chg.refl NoB W).drew.trans' hc2))
              clear hc2 hS0 e0 c0 q0 q1 q2 q3 q4 q5 q6 q7 q8 q9 q10
              cases bb
              · go_wp2_with fail
                go_roundw
                case rel => exact ⟨m + 1, cn, by omega, by omega, by go_num, rfl, hid (by rw [HC.out, hd]; simp), hK2⟩
                case measure => simp [intOf]; omega
              · go_wp2_with fail
                go_roundw
                case rel => exact ⟨m + 1, cn + 1, by omega, by omega, by go_num, by go_num, hid (by rw [HC.out, hd]; simp), hK2⟩
                case measure => simp [intOf]; omega
            · obtain rfl : m = A.length := by omega
              have hcr : Hid ((cn : Int) = sLag s.L A) := hid (by rw [hcn.out, List.take_length]; unfold sLag; rw [hup.out])
              go_wp2_with (go_at_call 22; refine (lag_calls w p g rl lv s _ A _ hK.out.a (by omega) (HVA.out.mono hK.out.chg) (by omega) cn hcr).mono ?_; rintro e w9 ⟨rfl, c9⟩)
              go_ret
              exact ⟨by simp, hK.out.chg.trans' c9⟩
    · have hcs : lc = true ∨ (lc = false ∧ f1 = false) := by cases lc <;> cases f1 <;> simp_all
      clear hall
      rcases hcs with rfl | ⟨rfl, rfl⟩
      · have h6 : (6 : Int) < (LS.length : Int) := by have := hlc.out; simp at this; omega
        go_wp2
        go_ret
        exact ⟨rfl, hc.out.trans' c2⟩
      · have h6 : ¬ ((6 : Int) < (LS.length : Int)) := by have := hlc.out; simp at this; omega
        go_wp2_with (go_at_call 9; refine (entsFew_calls _ A _ (HVA.out.mono (hc.out.trans' c2)) _ hf1).mono ?_; rintro e w3 ⟨rfl, c3⟩)
        go_ret
        exact ⟨rfl, hc.out.trans' (c2.trans' c3)⟩
end Go.Proofs.Ytekjchphlphecaa
