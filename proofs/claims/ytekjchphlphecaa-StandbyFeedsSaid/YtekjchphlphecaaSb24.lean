import Derived.Test.YtekjchphlphecaaRefSame
import Derived.Test.YtekjchphlphecaaSb23
namespace Go.Proofs.Ytekjchphlphecaa
open Go.RowKit Go.ChangeMaps Go.MapKept
set_option linter.unusedVariables false
set_option linter.unusedSimpArgs false
set_option linter.unnecessarySimpa false
set_option maxHeartbeats 8000000

theorem strInj {a b : ByteArray} (h : a.toList = b.toList) : a = b := by
  rw [ByteArray.toList_eq, ByteArray.toList_eq] at h
  exact ByteArray.ext (Array.toList_inj.1 h)
def encS (x : ByteArray) : List Value := [.string x]
theorem Rd.str_at {w : World} {a : Option Addr} {l : List ByteArray} (h : ∀ i x, l[i]? = some x → ∃ b off, a = some ⟨b, off, none⟩ ∧ ∀ j u, (encS x)[j]? = some u → w.cell? ⟨b, off + i * 1 + j, none⟩ = some u) (k : Nat) (hk : k < l.length) :
    ∃ b off, a = some ⟨b, off, none⟩ ∧ w.cell? ⟨b, off + k, none⟩ = some (.string l[k]) := by
  obtain ⟨b, off, ha, h2⟩ := h k _ (List.getElem?_eq_getElem hk)
  exact ⟨b, off, ha, by simpa using h2 0 _ rfl⟩
theorem flatMap_encS (l : List ByteArray) : l.flatMap encS = l.map Value.string := by induction l <;> simp_all [encS]
theorem sameS_len {a b : List ByteArray} (h : ¬ a.length = b.length) : decide (a = b) = false := by
  rw [decide_eq_false_iff_not]; intro e; exact h (by rw [e])
theorem sameS_at {a b : List ByteArray} {k : Nat} (ha : k < a.length) (hb : k < b.length) (h : ¬ a[k] = b[k]) : decide (a = b) = false := by
  rw [decide_eq_false_iff_not]; intro e; subst e; exact h rfl
theorem sameS_all {a b : List ByteArray} (hl : a.length = b.length) (h : ∀ j (ha : j < a.length) (hb : j < b.length), a[j] = b[j]) : decide (a = b) = true := by
  rw [decide_eq_true_iff]
  exact List.ext_getElem hl fun i h1 h2 => h i h1 h2
set_option maxRecDepth 100000 in
theorem same16 (va vb : Value) (a b : List ByteArray) (w : World) (ha : Rd w 1 encS va a) (hb : Rd w 1 encS vb b) (r : Bool) (hr : Hid (r = decide (a = b))) :
    Calls Try.prog 20 #[va, vb] w fun e w' => e = .returned (.bool r) ∧ ∃ n, w' = w.drewN n := by
  obtain ⟨aa, ca, rfl, ha1, ha2, ha3⟩ := ha
  obtain ⟨ab, cb, rfl, hb1, hb2, hb3⟩ := hb
  unfold maxLen at ha2 hb2
  by_cases hl : a.length = b.length
  · have hl2 : (a.length == b.length) = true := by simpa using hl
    have HL := hid hl
    clear hl
    go_enter Try.func20, Try.ntmps20
    go_wp2
    go_loopw [5] (fun i wr => ∃ k : Nat, k ≤ a.length ∧ i = .int .i64 k ∧ Hid (∀ j (h1 : j < k) (h2 : j < a.length) (h3 : j < b.length), a[j] = b[j]) ∧ ∃ n, wr = w.drewN n) (fun i _ => a.length - (intOf i).toNat)
    case atStart => exact ⟨0, by omega, rfl, hid (fun j h => by omega), 0, rfl⟩
    case round =>
      obtain ⟨k, hk, rfl, HE, n, rfl⟩ := hrel
      by_cases hlt : k < a.length
      · have hlb : k < b.length := by rw [← HL.out]; exact hlt
        obtain ⟨ba, oa, rfl, hca⟩ := Rd.str_at ha3 k hlt
        obtain ⟨bb, ob, rfl, hcb⟩ := Rd.str_at hb3 k hlb
        have HA := hid ha3
        have HB := hid hb3
        clear ha3 hb3
        obtain ⟨x, hx⟩ := named a[k]
        obtain ⟨y, hy⟩ := named b[k]
        rw [← hx.out] at hca
        rw [← hy.out] at hcb
        cases hxy : (x.toList == y.toList)
        · go_wp2
          go_quiet (fail)
          go_wp2
          go_ret
          exact ⟨ret_bool (by rw [hr.out]; symm; exact sameS_at hlt hlb (by rw [← hx.out, ← hy.out]; intro e; rw [e] at hxy; simp at hxy)), _, World.drewN_drewN _ _ _⟩
        · go_wp2
          go_quiet (fail)
          go_wp2
          go_roundw
          case rel =>
            refine ⟨k + 1, by omega, by go_num, hid (fun j h1 h2 h3 => ?_), _, rfl⟩
            by_cases hjk : j < k
            · exact HE.out j hjk h2 h3
            · obtain rfl : j = k := by omega
              rw [← hx.out, ← hy.out]
              exact strInj (by simpa using hxy)
          case measure => simp [intOf]; omega
      · obtain rfl : k = a.length := by omega
        go_wp2
        go_ret
        exact ⟨ret_bool (by rw [hr.out]; symm; exact sameS_all HL.out (fun j h1 h2 => HE.out j h1 h1 h2)), _, rfl⟩
  · have hl2 : (a.length == b.length) = false := by simpa using hl
    have HL := hid hl
    clear hl
    go_enter Try.func20, Try.ntmps20
    go_wp2
    go_ret
    exact ⟨ret_bool (by rw [hr.out]; symm; exact sameS_len HL.out), 0, rfl⟩

/-! ### awake's values -/
def x0 : Ent := ⟨128, ⟨1, 1, 0, 0, 0, 0, 0, ⟨#[0]⟩, ⟨#[97]⟩, [], []⟩⟩
def x2 : Ent := ⟨200, ⟨0, 0, 0, 0, 0, 0, 0, ⟨#[]⟩, ⟨#[]⟩, [], []⟩⟩
def pgA : Pg := ⟨128, ⟨(97 :: List.replicate 219 0).toArray⟩⟩
def pgB : Pg := ⟨128, ⟨(0 :: List.replicate 219 0).toArray⟩⟩
def sA : SS := ⟨[pgA], [x0], [(1, 128)]⟩
set_option maxRecDepth 100000 in
theorem aw1 : (1, 0, sA) = sFeed (sNew 1) [x0] := by kernel_rfl
set_option maxRecDepth 100000 in
theorem aw2 : (0, 0, sA) = sFeed sA [x0] := by kernel_rfl
theorem aw_walk : walk [x0] 1 (goTo 0) true 128 = ([(128, x0.r)], 0) := by
  rw [walk_step (r := x0.r) rfl rfl rfl, show nextOf true x0.r = 0 from rfl, walk_stop rfl]
theorem aw_undo : undoOf [x0] 1 128 0 = ([undoRec 1 x0.r], 0) := by
  unfold undoOf orErr
  rw [aw_walk]
  rfl
set_option maxRecDepth 100000 in
theorem aw_pg : undoPg [pgA] [undoRec 1 x0.r] = [pgB] := by kernel_rfl
theorem aw_prom : promOf [x0] [(1, 128)] [pgA] = ([pgB], 0) := by
  unfold promOf
  rw [aw_undo]
  simp only [if_true]
  rw [aw_pg]
  rfl
theorem ok_x0 : x0.r.okk ∧ fits x0.at_ := by
  simp [x0, Rec.okk, Rec.ok, fits, maxLen, ByteArray.size]
theorem ok_x2 : x2.r.okk ∧ fits x2.at_ := by
  simp [x2, Rec.okk, Rec.ok, fits, maxLen, ByteArray.size]
theorem inv_sA : SInv sA := by
  have := (SInv.new 1).feed (l := [x0]) (by intro x hx; rw [List.mem_singleton.1 hx]; exact ok_x0)
  rw [← aw1] at this
  exact this

def x0C : List Value := [.int .i64 128, .int .i64 1, .int .i64 1, .int .i64 0, .int .i64 0, .int .i64 0, .int .i64 0, .int .i64 0, .string ⟨#[0]⟩, .string ⟨#[97]⟩, .slice none 0 0, .slice none 0 0]
theorem aw_lag : (1 : Int) = sLag [x0] [x0, x2] := by kernel_rfl
theorem csn_x2 : x2.csn = [.int .i64 200, .int .i64 0, .int .i64 0, .int .i64 0, .int .i64 0, .int .i64 0, .int .i64 0, .int .i64 0, .string ⟨#[]⟩, .string ⟨#[]⟩, .slice none 0 0, .slice none 0 0] := rfl
theorem pgA_sz : pgA.data.size = 220 := by kernel_rfl
theorem pgB_sz : pgB.data.size = 220 := by kernel_rfl
theorem ents_2 {w : World} {B : Nat} {v : Value} (h : w.ownsRow B 57 12 v 2 (x0.csn ++ x2.csn)) : Ents w v [x0, x2] :=
  Ents.of_cells (Rd.of_own (l := [x0, x2]) (enc := Ent.csn) (size := 12) (fun _ => rfl) (by simpa using h)) (fun z hz => by
    rcases List.mem_cons.1 hz with rfl | hz
    · exact ⟨rfl, rfl, ok_x0.1.1, ok_x0.2⟩
    · rw [List.mem_singleton.1 hz]; exact ⟨rfl, rfl, ok_x2.1.1, ok_x2.2⟩)
/-- What awake has. -/
structure AwI (w W : World) (p g rl lb : Nat) (lv : Value) (s : SS) : Prop where
  st : StAt w W p g rl lv s
  ls : W.heap[lb]? = some (.cells x0C.toArray 57 (0, 0))
  nf : ¬ stFp p g rl lv lb ∧ w.heap.size ≤ lb
  chg : Chg NoB w W
theorem AwI.keep {w W W' : World} {p g rl lb : Nat} {lv : Value} {s : SS} (h : AwI w W p g rl lb lv s) (hc : Chg NoB W W') : AwI w W' p g rl lb lv s := ⟨h.st.keep0 hc, hc.heap h.ls nob, h.nf, h.chg.trans' hc⟩
theorem x0F {w0 W : World} {fp : Nat → Prop} {b : Nat} (hb : W.heap[b]? = some (.cells x0C.toArray 57 (0, 0))) (hn : ¬ fp b) : EntsF w0 W fp (.slice (some ⟨b, 0, none⟩) 1 1) [x0] := by
  refine ⟨_, _, rfl, Nat.le_refl _, by simp [maxLen], fun i x hi => ?_⟩
  have h0 : i = 0 := by have := (List.getElem?_eq_some_iff.1 hi).1; simp at this; omega
  subst h0
  simp only [List.getElem?_cons_zero, Option.some.injEq] at hi
  subst hi
  refine ⟨b, 0, .slice none 0 0, .slice none 0 0, rfl, ⟨by rw [cell_blk hb]; rfl, fun j u hu => ?_⟩, hn, ⟨tabs_nil rfl rfl, ok_x0.1.1, ok_x0.2, fun k _ => ⟨SlB.nil, SlB.nil⟩⟩, ⟨rfl, rfl⟩⟩
  rw [cell_blk hb, show 0 + 0 * 12 + 1 + j = j + 1 by omega, List.getElem?_toArray]
  exact hu
theorem AwI.feed {w W : World} {p g rl lb : Nat} {lv : Value} {s : SS} (h : AwI w W p g rl lb lv s) (hl : s.L.length ≤ 10) (n : Int) (s' : SS) (hr : (n, 0, s') = sFeed s [x0]) :
    Calls Try.prog 11 #[.pointer (some ⟨p, 0, none⟩), .slice (some ⟨lb, 0, none⟩) 1 1] W fun e w' => e = .returned (.tuple #[.int .i64 n, .int .i64 0]) ∧ ∃ lv', Hid (AwI w w' p g rl lb lv' s') :=
  (feed_callsF w p g rl lv s _ [x0] W h.st (x0F h.ls h.nf.1) (fun x hx => by rw [List.mem_singleton.1 hx]; exact ok_x0.1) (by simp; omega) n 0 s' hr).mono fun e w' ⟨he, lv', hI⟩ =>
    ⟨he, lv', hid ⟨hI.out.at_, hI.out.chg.heap h.ls h.nf.1, ⟨fun hk => by
      rcases hk with h1 | h1 | h1 | h1
      · exact h.nf.1 (.inl h1)
      · exact h.nf.1 (.inr (.inl h1))
      · exact h.nf.1 (.inr (.inr (.inl h1)))
      · rcases hI.out.new _ h1 with h2 | h2
        · exact h.nf.1 (.inr (.inr (.inr h2)))
        · have := lt_of_block h.ls; omega, h.nf.2⟩, h.chg.trans hI.out.chg fun k hk => .inr (h.st.fp k hk)⟩⟩
theorem AwI.prom {w W : World} {p g rl lb : Nat} {lv : Value} (h : AwI w W p g rl lb lv sA) :
    Calls Try.prog 18 #[.pointer (some ⟨p, 0, none⟩)] W fun e w' => ∃ b co, e = .returned (.tuple #[.slice (some ⟨b, 0, none⟩) 1 co, .int .i64 0]) ∧ w'.cell? ⟨b, 0, none⟩ = some (.string pgB.data) ∧ Hid (AwI w w' p g rl lb lv sA ∧ Chg NoB W w') := by
  refine (promote_calls w p g rl lv sA W h.st (by decide) inv_sA.fit (fun x hx => (inv_sA.okk x hx).1) (by decide) (fun x hx => ?_) [1] (List.Perm.refl _) (by simp) ([pgB], 0) (hid aw_prom.symm)).mono ?_
  · rw [List.mem_singleton.1 hx]; decide
  · rintro e w' ⟨vo, rfl, ho, hc⟩
    obtain ⟨b, co, post, rfl, _, hb, _⟩ := own_post ho.out (by decide)
    exact ⟨b, co, rfl, by rw [cell_blk hb]; rfl, hid ⟨h.keep hc.out, hc.out⟩⟩
theorem AwI.pages {w W : World} {p g rl lb : Nat} {lv : Value} (h : AwI w W p g rl lb lv sA) :
    Calls Try.prog 21 #[.pointer (some ⟨p, 0, none⟩)] W fun e w' => ∃ b co, e = .returned (.slice (some ⟨b, 0, none⟩) 1 co) ∧ w'.cell? ⟨b, 0, none⟩ = some (.string pgA.data) ∧ Hid (AwI w w' p g rl lb lv sA ∧ Chg NoB W w') := by
  refine (pages_calls w p g rl lv sA W h.st).mono ?_
  rintro e w' ⟨vo, rfl, ho, hc⟩
  obtain ⟨b, co, post, rfl, _, hb, _⟩ := own_post ho.out (by decide)
  exact ⟨b, co, rfl, by rw [cell_blk hb]; rfl, hid ⟨h.keep hc.out, hc.out⟩⟩
theorem AwI.open_ {w W : World} {p g rl lb : Nat} {lv : Value} (h : AwI w W p g rl lb lv sA) :
    Calls Try.prog 16 #[.pointer (some ⟨p, 0, none⟩)] W fun e w' => ∃ ao co, e = .returned (.slice ao 1 co) ∧ Hid (Rd w' 1 encI (.slice ao 1 co) [1]) ∧ Hid (AwI w w' p g rl lb lv sA ∧ Chg NoB W w') := by
  refine (open_calls w p g rl lv sA W h.st (fun x hx => ?_) (by decide) [1] (hid ?_)).mono ?_
  · rw [List.mem_singleton.1 hx]; decide
  · simp [sA, sortI]
  · rintro e w' ⟨vo, rfl, ho, hc⟩
    obtain ⟨ao, co, rfl⟩ := ownsForm ho.out
    exact ⟨ao, co, rfl, hid (Rd.ints_of ho.out), hid ⟨h.keep hc.out, hc.out⟩⟩

set_option maxRecDepth 100000 in
theorem awake (w : World) : Calls Try.prog 8 #[] w fun e w' => e = .returned (.bool true) ∧ Chg NoB w w' := by
  go_enter Try.func8, Try.ntmps8
  go_upto_region 3 with (go_at_call 7; refine (new_ok 1 (by omega) (by omega) _).mono ?_; rintro e w1 ⟨p, g, rl, rfl, hS, hc⟩)
  have HI : Hid (AwI w (w1.alloc (.cells x0C.toArray 57)) p g rl w1.heap.size (.slice none 0 0) (sNew 1)) := hid ⟨hS.out.keep0 ((Chg.refl _ _).alloc _), blk_new _ _, ⟨fun h => by have := hS.out.fpl _ h; omega, hc.out.size⟩, hc.out.alloc _⟩
  obtain ⟨lb, hlb⟩ := named w1.heap.size
  refine wp_gen (fun W => AwI w W p g rl w1.heap.size (.slice none 0 0) (sNew 1)) HI.out ?_
  rintro W HJ
  rw [← hlb.out] at HJ ⊢
  replace HI := hid HJ
  clear HJ hS hc hlb
  go_upto_region 4 with (go_at_call 11; refine (HI.out.feed (by decide) 1 sA aw1).mono ?_; rintro e w2 ⟨rfl, lv2, HJ⟩)
  go_upto_region 5 with (go_at_call 11; refine (HJ.out.feed (by decide) 0 sA aw2).mono ?_; rintro e w3 ⟨rfl, lv3, HK⟩)
  clear HI HJ
  have hzA := pgA_sz
  have hzB := pgB_sz
  go_wp2_with (first
    | (go_at_call 18; refine (HK.out.prom).mono ?_; rintro e w4 ⟨bq, cq, rfl, hq, HL⟩; have HI := hid HL.out.1)
    | (go_at_call 13; refine (upto_calls w p g rl lv3 sA _ HI.out.st (by decide) 128 (hid rfl)).mono ?_; rintro e w5 ⟨rfl, hc5⟩; have HI := hid (HI.out.keep hc5); have hq := hc5.cell hq nob)
    | (go_at_call 21; refine (HI.out.pages).mono ?_; rintro e w6 ⟨bp, cp, rfl, hp, HP⟩; have HI := hid HP.out.1; have hq := HP.out.2.cell hq nob)
    | (go_at_call 16; refine (HI.out.open_).mono ?_; rintro e w7 ⟨ao, co, rfl, hOR, HO⟩; have HI := hid HO.out.1)
    | (go_at_call 15; refine (refSame _ _ [1] [1] _ (hOR.out.mono ((Chg.refl NoB _).alloc _)) (Rd.of_blk (l := [1]) (enc := encI) (size := 1) (fun _ => rfl) (blk_new _ _) rfl (by simp [maxLen])) true (hid rfl)).mono ?_; rintro e w8 ⟨rfl, n8, rfl⟩; have HI := hid (HI.out.keep ((((Chg.refl NoB _).alloc (.cells #[.int .i64 1] 3)).drewN n8).alloc (.cells x2.csn.toArray 57))))
    | (at_builtin; refine step_app1w slEnt rfl _ _ rfl (base := w.heap.size) (n := 1) (xs := x0C) (v := .slice (some ⟨lb, 0, none⟩) 1 1) ⟨rfl, .inr ⟨lb, 1, _, rfl, HI.out.nf.2, HI.out.ls, Nat.le_refl _, by simp [maxLen], rfl, rfl⟩⟩ rfl _ x2.csn rfl (show _ = some (Obj.cells x2.csn.toArray 57 (0, 0)) from (by have h0 := blk_new ((w7.alloc (.cells #[.int .i64 1] 3)).drewN n8) (.cells x2.csn.toArray 57); rw [show ((w7.alloc (.cells #[.int .i64 1] 3)).drewN n8).heap.size = w7.heap.size + 1 by simp] at h0; exact h0)) rfl rfl (by simp [csn_x2, Value.oneCell']) (by omega) (by simp [maxLen]) (HI.out.chg.size) ?_; intro v9 w9 hv9 hc9 ho9; obtain ⟨a9, c9, rfl⟩ := ownsForm hv9; have HS9 := hid (HI.out.st.keep hc9 (fun k hk => by have h' : lb = k := (by simpa [OwnB, Value.ownBlock] using hk); rw [← h']; exact ⟨HI.out.nf.1, .inl HI.out.nf.2⟩)); have HE9 := hid (ents_2 hv9); have HC9 := hid (HI.out.chg.trans hc9 (fun k hk => by have h' : lb = k := (by simpa [OwnB, Value.ownBlock] using hk); rw [← h']; exact .inr HI.out.nf.2)))
    | (go_at_call 22; refine (lag_calls w p g rl lv3 sA _ [x0, x2] _ HS9.out (by decide) HE9.out (by decide) 1 (hid aw_lag)).mono ?_; rintro e wz ⟨rfl, hcz⟩))
  go_ret
  exact ⟨rfl, HC9.out.trans' hcz⟩
end Go.Proofs.Ytekjchphlphecaa
