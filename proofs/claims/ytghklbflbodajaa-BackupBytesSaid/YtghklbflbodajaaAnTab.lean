import Derived.Test.YtghklbflbodajaaA8
import Derived.Test.YtghklbflbodajaaAnLaw
import Derived.Test.YtghklbflbodajaaA9
namespace Go.Proofs.Ytghklbflbodajaa
open Go.RowKit Go.ChangeMaps Go.MapKept
set_option linter.unusedVariables false
set_option linter.unusedSimpArgs false
set_option linter.unnecessarySimpa false

def AFit (s : AT) : Prop := (∀ p ∈ s.T, fits p.1) ∧ (∀ p ∈ s.G, fits p.1)
theorem mput_fit {ν : Type} {m : List (Int × ν)} (h : ∀ p ∈ m, fits p.1) {k : Int} (hk : fits k) (v : ν) : ∀ p ∈ mput m k v, fits p.1 := by
  intro p hp
  have : p.1 ∈ (mput m k v).map (·.1) := List.mem_map.2 ⟨p, hp, rfl⟩
  rw [mput_keys] at this
  have h1 : p.1 ∈ m.map (·.1) ∨ p.1 = k := by
    split at this
    · rcases List.mem_append.1 this with h | h
      · exact .inl h
      · exact .inr (by simpa using h)
    · exact .inl this
  rcases h1 with h1 | h1
  · obtain ⟨q, hq, e⟩ := List.mem_map.1 h1
    rw [← e]; exact h q hq
  · rw [h1]; exact hk
theorem aTxns_fit (l : List Row3) (hl : ∀ x ∈ l, fits x.1) : ∀ T : List (Int × Row3), (∀ p ∈ T, fits p.1) → ∀ p ∈ l.foldl aTxn T, fits p.1 := by
  induction l with
  | nil => intro T h; exact h
  | cons x l ih => intro T h; exact ih (fun y hy => hl y (by simp [hy])) _ (mput_fit h (hl x (by simp)) _)
theorem aPgs_fit (l : List (Int × Int)) (hl : ∀ x ∈ l, fits x.1) : ∀ T : List (Int × Int), (∀ p ∈ T, fits p.1) → ∀ p ∈ l.foldl aPage T, fits p.1 := by
  induction l with
  | nil => intro T h; exact h
  | cons x l ih => intro T h; exact ih (fun y hy => hl y (by simp [hy])) _ (mput_fit h (hl x (by simp)) _)
theorem AFit.ent {s : AT} (h : AFit s) (c : Int) {x : Ent} (hx : x.r.ok) : AFit (aStep c s x) := by
  obtain ⟨k1, k2, k3, _, _, _, _, _, _, k10, k11⟩ := hx
  unfold aStep
  split
  · unfold aEnt
    split
    · refine ⟨mput_fit h.1 k2 _, ?_⟩
      dsimp only
      split
      · exact h.2
      · exact mput_fit h.2 k3 _
    · split
      · exact ⟨fun p hp => h.1 p (List.mem_filter.1 hp).1, h.2⟩
      · split
        · split
          · exact ⟨aTxns_fit _ k10 _ h.1, aPgs_fit _ k11 _ h.2⟩
          · exact h
        · exact h
  · exact h
/-- How much a list of entries may gather. -/
def entsW (l : List Ent) : Nat := (l.map fun x => 1 + x.r.txns.length + x.r.pages.length).sum
theorem aTxns_len (l : List Row3) : ∀ T : List (Int × Row3), (l.foldl aTxn T).length ≤ T.length + l.length := by
  induction l with
  | nil => intro T; simp
  | cons x l ih =>
    intro T
    have h1 := ih (aTxn T x)
    have h2 := mput_len T x.1 (mrgT (mget T x.1) x)
    rw [List.foldl_cons, List.length_cons]
    unfold aTxn at h1 ⊢
    omega
theorem aPgs_len (l : List (Int × Int)) : ∀ T : List (Int × Int), (l.foldl aPage T).length ≤ T.length + l.length := by
  induction l with
  | nil => intro T; simp
  | cons x l ih =>
    intro T
    have h1 := ih (aPage T x)
    have h2 := mput_len T x.1 (mrgP (mget T x.1) x.2)
    rw [List.foldl_cons, List.length_cons]
    unfold aPage at h1 ⊢
    omega
theorem aStep_len (c : Int) (s : AT) (x : Ent) : (aStep c s x).T.length ≤ s.T.length + (1 + x.r.txns.length + x.r.pages.length) ∧ (aStep c s x).G.length ≤ s.G.length + (1 + x.r.txns.length + x.r.pages.length) := by
  unfold aStep
  split
  · unfold aEnt
    split
    · have h1 := mput_len s.T x.r.txn (aRow s.T x.r.txn x.at_)
      have h2 := mput_len s.G x.r.page x.at_
      refine ⟨by dsimp only; omega, ?_⟩
      dsimp only
      split <;> omega
    · split
      · have := mdel_len s.T x.r.txn
        exact ⟨by dsimp only; omega, by dsimp only; omega⟩
      · split
        · split
          · have h1 := aTxns_len x.r.txns s.T
            have h2 := aPgs_len x.r.pages s.G
            exact ⟨by dsimp only; omega, by dsimp only; omega⟩
          · omega
        · omega
  · omega
theorem aFold_len (c : Int) (l : List Ent) : ∀ s : AT, (l.foldl (aStep c) s).T.length ≤ s.T.length + entsW l ∧ (l.foldl (aStep c) s).G.length ≤ s.G.length + entsW l := by
  induction l with
  | nil => intro s; simp [entsW]
  | cons x l ih =>
    intro s
    have h1 := ih (aStep c s x)
    have h2 := aStep_len c s x
    have h3 : entsW (x :: l) = (1 + x.r.txns.length + x.r.pages.length) + entsW l := by simp [entsW]
    rw [List.foldl_cons, h3]
    omega
theorem AFit.foldl {c : Int} (l : List Ent) (hl : ∀ x ∈ l, x.r.ok) : ∀ s, AFit s → AFit (l.foldl (aStep c) s) := by
  induction l with
  | nil => intro s h; exact h
  | cons x l ih => intro s h; exact ih (fun y hy => hl y (by simp [hy])) _ (h.ent c (hl x (by simp)))
theorem wf_of {x : Int} (h : fits x) : (Lit.int .i64 x).wf = true := by
  unfold fits at h
  simp [Lit.wf, IntKind.min, IntKind.max, IntKind.signed, IntKind.bits]
  omega

theorem slRow : SlT Try.prog 75 104 (.agg #[.int .i64 0, .int .i64 0, .int .i64 0]) 3 24 := ⟨Try.underlying75, by kernel_rfl, rfl, by omega⟩
theorem slPg : SlT Try.prog 76 131 (.agg #[.int .i64 0, .int .i64 0]) 2 16 := ⟨Try.underlying76, by kernel_rfl, rfl, by omega⟩

theorem ownsBase' {w : World} {B B' : Nat} {e : TypeId} {size : Nat} {v : Value} {n : Nat} {xs : List Value} (h : w.ownsRow B e size v n xs) (hb : B' ≤ B) : w.ownsRow B' e size v n xs := by
  refine ⟨h.1, ?_⟩
  rcases h.2 with h2 | ⟨g, cap, cur, h3, h4, h5⟩
  · exact .inl h2
  · exact .inr ⟨g, cap, cur, h3, Nat.le_trans hb h4, h5⟩
theorem take_map_succ {α β : Type} (f : α → β) {l : List α} {k : Nat} {x : α} (hk : k < l.length) (hx : l[k] = x) : (l.take (k + 1)).map f = (l.take k).map f ++ [f x] := by
  rw [List.take_succ_eq_append_getElem hk, List.map_append, hx]; rfl

/-- What Tables hands back. -/
def TabsRet (w w' : World) (e : Ending) (t : List Row3) (p : List (Int × Int)) (er : Int) : Prop :=
  ∃ v1 v2, e = .returned (.tuple #[v1, v2, .int .i64 er]) ∧ w'.ownsRow w.heap.size 104 3 v1 t.length (t.flatMap encTx) ∧ w'.ownsRow w.heap.size 131 2 v2 p.length (p.flatMap encPg) ∧ Chg NoB w w'

set_option maxRecDepth 100000 in
set_option maxHeartbeats 8000000 in
theorem tables_calls (v : Value) (l : List Ent) (c : Int) (w : World) (hv : Ents w v l) (hl : entsW l ≤ 1000000) (t : List Row3) (p : List (Int × Int)) (er : Int) (hr : Hid ((t, p, er) = tabsOf l c)) :
    Calls Try.prog 42 #[v, .int .i64 c] w fun e w' => TabsRet w w' e t p er := by
  have HV := hid hv
  obtain ⟨a, n, rfl, h1, h2, h3⟩ := hv
  unfold maxLen at h2
  have HR := hid h3
  have hok : ∀ x ∈ l, x.r.ok := by
    intro x hx
    obtain ⟨i, hi, rfl⟩ := List.getElem_of_mem hx
    obtain ⟨cs, b, off, ⟨v1, v2, _, _, h5, _⟩, _⟩ := h3 i _ (List.getElem?_eq_getElem hi)
    exact h5
  clear h3
  obtain ⟨me, hme⟩ := named (aErr l c)
  by_cases hm0 : me = 0
  · have hm := hid hm0
    have hR : Hid (t = aRows (aFold c l) ∧ p = aPages (aFold c l) ∧ er = 0) := hid (by
      have := hr.out
      unfold tabsOf at this
      rw [if_pos (by rw [← hme.out]; exact hm0)] at this
      cases this
      exact ⟨rfl, rfl, rfl⟩)
    subst hm0
    clear hm
    rw [hR.out.1, hR.out.2.1, hR.out.2.2]
    have hmm := @run_makeMap Try.prog
    go_enter Try.func42, Try.ntmps42
    go_wp2_with (go_at_call 54; refine (may_calls _ l c _ HV.out 0 hme).mono ?_; rintro e w1 ⟨rfl, hc1⟩; replace hc1 := hid hc1)
    have hAn : AnAt (((w1.alloc (.map #[] 0)).alloc (.map #[] 0)).alloc (.cells #[.int .i64 c, .map (some w1.heap.size), .map (some (w1.heap.size + 1))] 122)) (w1.heap.size + 1 + 1) w1.heap.size (w1.heap.size + 1) c ⟨[], []⟩ := by
      refine ⟨?_, ?_, ?_, by omega⟩
      · have := blk_new ((w1.alloc (.map #[] 0)).alloc (.map #[] 0)) (.cells #[.int .i64 c, .map (some w1.heap.size), .map (some (w1.heap.size + 1))] 122)
        simpa using this
      · exact (MapI.made w1 VRow).keep (by rw [blk_alloc (blk_alloc (blk_new w1 _) _) _, blk_new])
      · have h := (MapI.made (w1.alloc (.map #[] 0)) (Value.int .i64)).keep (w' := ((w1.alloc (.map #[] 0)).alloc (.map #[] 0)).alloc (.cells #[.int .i64 c, .map (some w1.heap.size), .map (some (w1.heap.size + 1))] 122)) (by rw [blk_alloc (blk_new _ _) _, blk_new])
        simpa using h
    have hsz1 := hc1.out.size
    have hC0 : Hid (Chg NoB w (((w1.alloc (.map #[] 0)).alloc (.map #[] 0)).alloc (.cells #[.int .i64 c, .map (some w1.heap.size), .map (some (w1.heap.size + 1))] 122))) := hid (((hc1.out.alloc _).alloc _).alloc _)
    obtain ⟨q, hq⟩ := named w1.heap.size
    rw [← hq.out] at hsz1 hAn hC0 ⊢
    have HA0 := hid hAn
    clear hAn
    go_wp2
    go_loopw [28] (fun i wr => ∃ k : Nat, k ≤ l.length ∧ i = .int .i64 k ∧ Hid (AnAt wr (q + 1 + 1) q (q + 1) c ((l.take k).foldl (aStep c) ⟨[], []⟩) ∧ Chg NoB w wr)) (fun i _ => l.length - (intOf i).toNat)
    case atStart => exact ⟨0, by omega, rfl, ⟨HA0.out, hC0.out⟩⟩
    case round =>
      obtain ⟨k, hk, rfl, hI⟩ := hrel
      by_cases hlt : k < l.length
      · obtain ⟨x, b, off, v1, v2, hx, rfl, ht, _, g0, g1, g2, g3, g4, g5, g6, g7, g8, g9, g10, g11⟩ := Ents.cells HR.out hI.out.2 k hlt
        have HF := hid (foldl_take (aStep c) l (⟨[], []⟩ : AT) hlt hx.out)
        have HTx := hid ht
        obtain ⟨⟨a1, n1, rfl, _, _, _⟩, ⟨a2, n2, rfl, _, _, _⟩⟩ := ht
        by_cases hca : c ≤ x.at_
        · have HS : Hid (∀ s, aStep c s x = aEnt c s x) := hid (fun s => by unfold aStep; rw [if_pos hca])
          go_wp2_with (go_at_call 55; refine (entry_calls (q + 1 + 1) q (q + 1) c ((l.take k).foldl (aStep c) ⟨[], []⟩) x _ _ _ (hI.out.1.keep0 ((Chg.refl NoB wr).alloc _)) (HTx.out.mono (hI.out.2.alloc _))).mono ?_; rintro e w2 ⟨rfl, ha2, hc2⟩)
          go_roundw
          case rel =>
            refine ⟨k + 1, by omega, by go_num, ?_, ?_⟩
            · rw [HF.out, HS.out]; exact ha2
            · exact (hI.out.2.alloc _).trans hc2 (fun i hi => by rcases hi with e | e <;> (right; omega))
          case measure => simp [intOf]; omega
        · have HS : Hid (∀ s, aStep c s x = s) := hid (fun s => by unfold aStep; rw [if_neg hca])
          go_wp2_with fail
          go_roundw
          case rel =>
            refine ⟨k + 1, by omega, by go_num, ?_, hI.out.2.alloc _⟩
            rw [HF.out, HS.out]; exact hI.out.1.keep0 ((Chg.refl NoB wr).alloc _)
          case measure => simp [intOf]; omega
      · obtain rfl : l.length = k := by omega
        rw [List.take_length] at hI
        obtain ⟨st, hst⟩ := named (aFold c l)
        have hI2 : Hid (AnAt wr (q + 1 + 1) q (q + 1) c st ∧ Chg NoB w wr) := hid (by rw [hst.out]; exact hI.out)
        have hfit : Hid (AFit st) := hid (by rw [hst.out]; exact AFit.foldl l hok _ ⟨by simp, by simp⟩)
        have hlen : st.T.length ≤ 1000000 ∧ st.G.length ≤ 1000000 := by
          have := aFold_len c l ⟨[], []⟩
          rw [hst.out]; unfold aFold
          simp at this
          omega
        clear hI
        obtain ⟨c0, c1, c2⟩ := hI2.out.1.cells
        have HTw := hid (fun x hx => wf_of (hfit.out.1 x hx))
        have HGw := hid (fun x hx => wf_of (hfit.out.2 x hx))
        obtain ⟨ks, hks⟩ := named (sortI (st.T.map (·.1)))
        go_wp2_with (first
          | (go_at_call 57; refine (keys_callsRow _ _).mono ?_; rintro e w2 ⟨rfl, rfl⟩)
          | (go_at_call 56; refine (sorted_callsRow q wr.heap.size st.T _ (blk_new _ _) (hI2.out.1.mt.chg ((Chg.refl NoB wr).alloc _) nob) HTw.out hlen.1).mono ?_; rintro e w2 ⟨vk, rfl, ho2, hc2⟩; rw [← hks.out] at ho2; obtain ⟨a2, n2, rfl⟩ := ownsForm ho2; replace ho2 := hid ho2; replace hc2 := hid hc2))
        have hC2 := hid ((hI2.out.2.alloc (.cells #[.map (some q)] 119)).trans' hc2.out)
        have hA2 := hid (hI2.out.1.keep0 (((Chg.refl NoB wr).alloc (.cells #[.map (some q)] 119)).trans' hc2.out))
        have hkl : ks.length ≤ 1000000 := by rw [hks.out, sortI_len, List.length_map]; exact hlen.1
        have hkm : Hid (∀ m ∈ ks, ∃ x, mget st.T m = some x) := hid (fun m hm => mget_some_of (sortI_mem.1 (by rw [← hks.out]; exact hm)))
        obtain ⟨_, _, ee, hk1, hk2, hrd⟩ := Rd.ints_of ho2.out
        cases ee
        have HRD := hid hrd
        clear hrd hI2 hc2 c0 c1 c2 hk1
        obtain ⟨rowF, hrowF⟩ : ∃ f : Int → Row3, f = fun m => (mget st.T m).getD (0, 0, 0) := ⟨_, rfl⟩
        have HRF := hid hrowF
        clear hrowF
        go_loopw [4, 47] (fun o i wr => ∃ k : Nat, k ≤ ks.length ∧ i = .int .i64 k ∧ Hid (Chg NoB w2 wr) ∧ Hid (wr.ownsRow w2.heap.size 104 3 o k (((ks.take k).map rowF).flatMap encTx))) (fun _ i _ => ks.length - (intOf i).toNat)
        case atStart => exact ⟨0, by omega, rfl, Chg.refl _ _, World.ownsRow_nil _ _ _ _⟩
        case round =>
          obtain ⟨k, hk, rfl, hC3, hO⟩ := hrel
          obtain ⟨a3, n3, rfl⟩ := ownsForm hO.out
          have hA3 := hid (hA2.out.keep0 hC3.out)
          obtain ⟨c0, c1, c2⟩ := hA3.out.cells
          by_cases hlt : k < ks.length
          · obtain ⟨kb, ko, rfl, g0⟩ := Rd.int_at HRD.out k hlt
            replace g0 := hC3.out.cell g0 nob
            obtain ⟨m, hm⟩ := named (ks[k])
            rw [← hm.out] at g0
            obtain ⟨⟨x1, x2, x3⟩, hx⟩ := hkm.out m (by rw [hm.out]; exact List.getElem_mem _)
            have HX := hid hx
            have HS := hid (take_map_succ rowF hlt hm.out.symm)
            have hsz3 := hC3.out.size
            clear hx
            go_wp2_with (first
              | (at_lookup; refine step_lookup hA3.out.mt rfl _ _ 119 3 104 false rfl Try.underlying119 Try.underlying3 (zero_row _) m rfl rfl ?_; rw [HX.out]; simp only [Option.map_some, Option.getD_some, Bool.false_eq_true, if_false, VRow])
              | (at_builtin; refine step_app1 slRow rfl _ _ rfl (World.ownsRow.alloc hO.out _) rfl wr.heap.size [.int .i64 x1, .int .i64 x2, .int .i64 x3] rfl (blk_new _ _) rfl rfl (by simp [Value.oneCell']) ?_ ?_ ?_ ?_))
            case _ => omega
            case _ => unfold maxLen; omega
            case _ => first | omega | (simp; omega)
            intro v5 w5 hv5 hc5 hvo hnil
            have C5 : Hid (Chg NoB w2 w5) := (hC3.out.alloc (.cells #[.int .i64 x1, .int .i64 x2, .int .i64 x3] 104)).trans hc5 fun i hi => .inr (OwnB.ge hO.out i hi).1
            have HV5 := hid hv5
            clear hv5 hc5 hvo hnil
            go_wp2_with fail
            go_roundw
            case rel =>
              refine ⟨k + 1, by omega, by go_num, C5.out, hid ?_⟩
              have e1 : rowF m = (x1, x2, x3) := by rw [HRF.out]; show (mget st.T m).getD (0, 0, 0) = _; rw [HX.out]; rfl
              rw [HS.out, e1]
              simpa [encTx] using HV5.out
            case measure => simp [intOf]; omega
          · obtain rfl : ks.length = k := by omega
            rw [List.take_length] at hO
            go_wp2_with fail
            have hrows : aRows st = ks.map rowF := by unfold aRows; rw [← hks.out, HRF.out]
            have HROW := hid hrows
            obtain ⟨ks2, hks2⟩ := named (sortI (st.G.map (·.1)))
            have hsz3 := hC3.out.size
            have hsz2 := hC2.out.size
            clear hrows
            go_wp2_with (first
              | (go_at_call 58; refine (keys_callsInt _ _).mono ?_; rintro e w4 ⟨rfl, rfl⟩)
              | (go_at_call 56; refine (sorted_callsInt (q + 1) wr.heap.size st.G _ (blk_new _ _) (hA3.out.mp.chg ((Chg.refl NoB wr).alloc _) nob) HGw.out hlen.2).mono ?_; rintro e w4 ⟨vk, rfl, ho4, hc4⟩; rw [← hks2.out] at ho4; obtain ⟨a4, n4, rfl⟩ := ownsForm ho4; replace ho4 := hid ho4; replace hc4 := hid hc4))
            have hc34 := hid (((Chg.refl NoB wr).alloc (.cells #[.map (some (q + 1))] 120)).trans' hc4.out)
            have hC4 := hid ((hC2.out.trans' hC3.out).trans' hc34.out)
            have hA4 := hid (hA3.out.keep0 hc34.out)
            have hO4 := hid (ownsRow.chg hO.out hc34.out (fun _ _ => nob))
            have hkl2 : ks2.length ≤ 1000000 := by rw [hks2.out, sortI_len, List.length_map]; exact hlen.2
            have hkm2 : Hid (∀ m ∈ ks2, ∃ x, mget st.G m = some x) := hid (fun m hm => mget_some_of (sortI_mem.1 (by rw [← hks2.out]; exact hm)))
            obtain ⟨_, _, ee, hk4, hk5, hrd4⟩ := Rd.ints_of ho4.out
            cases ee
            have HRD4 := hid hrd4
            have hsz4 := hc34.out.size
            clear hrd4 hc4 c0 c1 c2 hk4 hO hA3 hc34
            go_loopw [5, 68] (fun o i wr => ∃ k : Nat, k ≤ ks2.length ∧ i = .int .i64 k ∧ Hid (Chg NoB w4 wr) ∧ Hid (wr.ownsRow w4.heap.size 131 2 o k (((ks2.take k).map (fun n => (n, (mget st.G n).getD 0))).flatMap encPg))) (fun _ i _ => ks2.length - (intOf i).toNat)
            case atStart => exact ⟨0, by omega, rfl, Chg.refl _ _, World.ownsRow_nil _ _ _ _⟩
            case round =>
              obtain ⟨k, hk, rfl, hC5, hO⟩ := hrel
              obtain ⟨a5, n5, rfl⟩ := ownsForm hO.out
              have hA5 := hid (hA4.out.keep0 hC5.out)
              obtain ⟨c0, c1, c2⟩ := hA5.out.cells
              by_cases hlt : k < ks2.length
              · obtain ⟨kb, ko, rfl, g0⟩ := Rd.int_at HRD4.out k hlt
                replace g0 := hC5.out.cell g0 nob
                obtain ⟨m, hm⟩ := named (ks2[k])
                rw [← hm.out] at g0
                obtain ⟨x1, hx⟩ := hkm2.out m (by rw [hm.out]; exact List.getElem_mem _)
                have HX := hid hx
                have HS := hid (take_map_succ (fun n => (n, (mget st.G n).getD 0)) hlt hm.out.symm)
                have hsz5 := hC5.out.size
                clear hx
                go_wp2_with (first
                  | (at_lookup; refine step_lookup hA5.out.mp rfl _ _ 120 3 3 false rfl Try.underlying120 Try.underlying3 (zero_int _) m rfl rfl ?_; rw [HX.out]; simp only [Option.map_some, Option.getD_some, Bool.false_eq_true, if_false])
                  | (at_builtin; refine step_app1 slPg rfl _ _ rfl (World.ownsRow.alloc hO.out _) rfl wr.heap.size [.int .i64 m, .int .i64 x1] rfl (blk_new _ _) rfl rfl (by simp [Value.oneCell']) ?_ ?_ ?_ ?_))
                case _ => omega
                case _ => unfold maxLen; omega
                case _ => first | omega | (simp; omega)
                intro v6 w6 hv6 hc6 hvo hnil
                have C6 : Hid (Chg NoB w4 w6) := (hC5.out.alloc (.cells #[.int .i64 m, .int .i64 x1] 131)).trans hc6 fun i hi => .inr (OwnB.ge hO.out i hi).1
                have HV6 := hid hv6
                clear hv6 hc6 hvo hnil
                go_wp2_with fail
                go_roundw
                case rel =>
                  refine ⟨k + 1, by omega, by go_num, C6.out, hid ?_⟩
                  rw [HS.out, HX.out]
                  simpa [encPg] using HV6.out
                case measure => simp [intOf]; omega
              · obtain rfl : ks2.length = k := by omega
                rw [List.take_length] at hO
                go_wp2_with fail
                go_ret3
                have hpg : aPages st = ks2.map (fun n => (n, (mget st.G n).getD 0)) := by unfold aPages; rw [← hks2.out]
                refine ⟨_, _, rfl, ?_, ?_, hC4.out.trans' hC5.out⟩
                · rw [← hst.out, HROW.out, List.length_map]
                  exact ownsBase' (ownsRow.chg hO4.out hC5.out (fun _ _ => nob)) hsz2
                · rw [← hst.out, hpg, List.length_map]
                  exact ownsBase' hO.out hC4.out.size
  · have hR : Hid (t = [] ∧ p = [] ∧ er = me) := hid (by
      have := hr.out
      unfold tabsOf at this
      rw [if_neg (by rw [← hme.out]; exact hm0), ← hme.out] at this
      cases this
      exact ⟨rfl, rfl, rfl⟩)
    rw [hR.out.2.2]
    have hb : (me != 0) = true := by simpa using hm0
    clear hm0
    go_enter Try.func42, Try.ntmps42
    go_wp2_with (go_at_call 54; refine (may_calls _ l c _ HV.out me hme).mono ?_; rintro e w1 ⟨rfl, hc1⟩; replace hc1 := hid hc1)
    go_ret3
    refine ⟨_, _, rfl, ?_, ?_, hc1.out⟩
    · rw [hR.out.1]; exact World.ownsRow_nil _ _ _ _
    · rw [hR.out.2.1]; exact World.ownsRow_nil _ _ _ _
end Go.Proofs.Ytghklbflbodajaa
