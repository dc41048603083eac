import Derived.Test.YtipmchdogdemjaaAnAw
import Derived.Test.YtipmchdogdemjaaAnOver
import Derived.Test.YtipmchdogdemjaaRises
namespace Go.Proofs.Ytipmchdogdemjaa
open Go.RowKit Go.ChangeMaps Go.MapKept
set_option linter.unusedVariables false

def NewB (w : World) : Nat → Prop := fun k => w.heap.size ≤ k
/-- The first loop's world. -/
structure OvW (w wr : World) (r1 r2 base : Nat) (l : List Ent) (k : Nat) (A : List Ent) (at_ : Int) (G N : List (Int × Int)) (ov : Value) : Prop where
  pl : OvA l k A at_ G N
  own : OwnE (NewB w) wr base ov A
  m1 : MapI wr r1 (Value.int .i64) G
  m2 : MapI wr r2 (Value.int .i64) N
  chg : Chg NoB w wr
  bd : w.heap.size ≤ r1 ∧ w.heap.size ≤ r2 ∧ r1 < base ∧ r2 < base ∧ r1 ≠ r2 ∧ w.heap.size ≤ base ∧ base ≤ wr.heap.size

theorem few_tabs {l : List Ent} (h : true = entsFew l) {k : Nat} (hk : k < l.length) {x : Ent} (hx : l[k] = x) : x.r.txns.length ≤ 50 ∧ x.r.pages.length ≤ 50 := by
  simp only [entsFew, Bool.true_eq, Bool.and_eq_true, List.all_eq_true] at h
  have := h.1 _ (List.getElem_mem hk)
  rw [hx] at this
  simp [Rec.few] at this
  omega
theorem entK_of {w wr : World} {F : Nat → Prop} {x : Ent} {v1 v2 : Value} (ht : Tabs w x.r v1 v2) (hok : x.r.ok ∧ fits x.at_) (hc : Chg NoB w wr) (hF : ∀ k, F k → w.heap.size ≤ k) : EntK F wr (x, v1, v2) := by
  have h : EntK F w (x, v1, v2) := ⟨ht, hok.1, hok.2, fun k hk => ⟨fun e => by have := Rd.slLt (size := 3) (fun _ => rfl) (by decide) ht.1 e; have := hF k hk; omega, fun e => by have := Rd.slLt (size := 2) (fun _ => rfl) (by decide) ht.2 e; have := hF k hk; omega⟩⟩
  exact h.keep hc fun k e => e.elim

set_option maxRecDepth 100000 in
set_option maxHeartbeats 8000000 in
theorem analysisOver_walk (w : World) (v : Value) (l : List Ent) (hv : Ents w v l) :
    Calls Try.prog 4 #[v] w fun e w' => e = .returned (.bool true) ∧ Chg NoB w w' := by
  obtain ⟨f, hf⟩ := named (entsFew l)
  obtain ⟨g, hg⟩ := named (risesB l)
  have HV := hid hv
  have hform : ∃ a c, v = .slice a l.length c ∧ l.length ≤ c ∧ l.length ≤ maxLen := by obtain ⟨a, c, rfl, h1, h2, _⟩ := hv; exact ⟨_, _, rfl, h1, h2⟩
  obtain ⟨a, c, rfl, q1, q2⟩ := hform
  unfold maxLen at q2
  clear hv
  cases f
  · go_enter Try.func4, Try.ntmps4
    go_wp2_with (first
      | (go_at_call 5; refine (awake w).mono ?_; rintro e w1 ⟨rfl, c1⟩)
      | (go_at_call 6; refine (entsFew_calls _ l _ (HV.out.mono c1) _ hf).mono ?_; rintro e w2 ⟨rfl, c2⟩))
    refine (awake w2).mono ?_
    rintro e w3 ⟨rfl, c3⟩
    go_wp2
    go_ret
    exact ⟨rfl, c1.trans' (c2.trans' c3)⟩
  cases g
  · go_enter Try.func4, Try.ntmps4
    go_wp2_with (first
      | (go_at_call 5; refine (awake w).mono ?_; rintro e w1 ⟨rfl, c1⟩)
      | (go_at_call 6; refine (entsFew_calls _ l _ (HV.out.mono c1) _ hf).mono ?_; rintro e w2 ⟨rfl, c2⟩)
      | (go_at_call 11; refine (rises_calls _ l _ (HV.out.mono (c1.trans' c2)) _ hg).mono ?_; rintro e w3 ⟨rfl, n3, h3⟩; have c3 : Chg NoB w2 w3 := (by rw [h3]; exact (Chg.refl _ _).drewN n3); clear h3))
    refine (awake w3).mono ?_
    rintro e w4 ⟨rfl, c4⟩
    go_wp2
    go_ret
    exact ⟨rfl, c1.trans' (c2.trans' (c3.trans' c4))⟩
  by_cases h60 : 60 < l.length
  · have h60i : (60 : Int) < (l.length : Int) := by omega
    go_enter Try.func4, Try.ntmps4
    go_wp2_with (first
      | (go_at_call 5; refine (awake w).mono ?_; rintro e w1 ⟨rfl, c1⟩)
      | (go_at_call 6; refine (entsFew_calls _ l _ (HV.out.mono c1) _ hf).mono ?_; rintro e w2 ⟨rfl, c2⟩)
      | (go_at_call 11; refine (rises_calls _ l _ (HV.out.mono (c1.trans' c2)) _ hg).mono ?_; rintro e w3 ⟨rfl, n3, h3⟩; have c3 : Chg NoB w2 w3 := (by rw [h3]; exact (Chg.refl _ _).drewN n3); clear h3))
    refine (awake w3).mono ?_
    rintro e w4 ⟨rfl, c4⟩
    go_wp2
    go_ret
    exact ⟨rfl, c1.trans' (c2.trans' (c3.trans' c4))⟩
  have h60i : ¬ (60 : Int) < (l.length : Int) := by omega
  have hmm := @run_makeMap Try.prog
  go_enter Try.func4, Try.ntmps4
  go_wp2_with (first
    | (go_at_call 5; refine (awake w).mono ?_; rintro e w1 ⟨rfl, c1⟩)
    | (go_at_call 6; refine (entsFew_calls _ l _ (HV.out.mono c1) _ hf).mono ?_; rintro e w2 ⟨rfl, c2⟩)
    | (go_at_call 11; refine (rises_calls _ l _ (HV.out.mono (c1.trans' c2)) _ hg).mono ?_; rintro e w3 ⟨rfl, n3, h3⟩; have c3 : Chg NoB w2 w3 := (by rw [h3]; exact (Chg.refl _ _).drewN n3); clear h3))
  have C3 := hid (c1.trans' (c2.trans' c3))
  clear c1 c2 c3 hmm
  obtain ⟨r1, hr1⟩ := named w3.heap.size
  have hs3 := C3.out.size
  have hW0 : Hid (OvW w ((w3.alloc (.map #[] 0)).alloc (.map #[] 0)) r1 (r1 + 1) (r1 + 2) l 0 [] 0 [] [] (.slice none 0 0)) := hid (by
    have e1 : ((w3.alloc (.map #[] 0)).alloc (.map #[] 0)).heap.size = r1 + 2 := by simp [hr1.out]
    refine ⟨OvA.start l, OwnE.nil _ _ _, ?_, ?_, (C3.out.alloc _).alloc _, ?_⟩
    · rw [hr1.out]; exact (MapI.made w3 _).chg ((Chg.refl NoB _).alloc _) nob
    · have := MapI.made (w3.alloc (.map #[] 0)) (Value.int .i64); rw [World.size_alloc, ← hr1.out] at this; exact this
    · rw [e1]; rw [← hr1.out] at hs3; omega)
  rw [← hr1.out] at hs3 ⊢
  go_loopw [3, 5, 39] (fun a3 o5 i wr => ∃ (k : Nat) (A : List Ent) (at_ : Int) (G N : List (Int × Int)) (ao : Option Addr) (co : Nat), k ≤ l.length ∧ i = .int .i64 k ∧ a3 = .int .i64 at_ ∧ o5 = .slice ao A.length co ∧ Hid (OvW w wr r1 (r1 + 1) (r1 + 2) l k A at_ G N (.slice ao A.length co))) (fun _ _ i _ => l.length - (intOf i).toNat)
  case atStart => exact ⟨0, [], 0, [], [], none, 0, by omega, rfl, rfl, rfl, hW0⟩
  case round =>
    obtain ⟨k, A, at_, G, N, ao, co, hk, rfl, rfl, rfl, hI⟩ := hrel
    clear hW0
    by_cases hlt : k < l.length
    · obtain ⟨x, b, off, v1, v2, hx, rfl, ht, hok, g0, g1, g2, g3, g4, g5, g6, g7, g8, g9, g10, g11⟩ := Ents.cells (by obtain ⟨_, _, e, _, _, h⟩ := HV.out; cases e; exact h) hI.out.chg k hlt
      have HTx := hid ht
      obtain ⟨⟨a1, n1, rfl, _, _, _⟩, ⟨a2, n2, rfl, _, _, _⟩⟩ := ht
      have hskip := hid hI.out.pl.skip
      by_cases hs1 : x.r.kind < 1
      · go_wp2_with fail
        go_roundw
        case rel => exact ⟨k + 1, A, at_, G, N, ao, co, by omega, by go_num, rfl, rfl, ⟨hskip.out, hI.out.own.keep0 ((Chg.refl NoB wr).alloc _), hI.out.m1.chg ((Chg.refl NoB wr).alloc _) nob, hI.out.m2.chg ((Chg.refl NoB wr).alloc _) nob, hI.out.chg.alloc _, by have := hI.out.bd; simp; omega⟩⟩
        case measure => simp [intOf]; omega
      by_cases hs2 : 4 < x.r.kind
      · go_wp2_with fail
        go_roundw
        case rel => exact ⟨k + 1, A, at_, G, N, ao, co, by omega, by go_num, rfl, rfl, ⟨hskip.out, hI.out.own.keep0 ((Chg.refl NoB wr).alloc _), hI.out.m1.chg ((Chg.refl NoB wr).alloc _) nob, hI.out.m2.chg ((Chg.refl NoB wr).alloc _) nob, hI.out.chg.alloc _, by have := hI.out.bd; simp; omega⟩⟩
        case measure => simp [intOf]; omega
      by_cases hs3 : x.at_ < 1
      · go_wp2_with fail
        go_roundw
        case rel => exact ⟨k + 1, A, at_, G, N, ao, co, by omega, by go_num, rfl, rfl, ⟨hskip.out, hI.out.own.keep0 ((Chg.refl NoB wr).alloc _), hI.out.m1.chg ((Chg.refl NoB wr).alloc _) nob, hI.out.m2.chg ((Chg.refl NoB wr).alloc _) nob, hI.out.chg.alloc _, by have := hI.out.bd; simp; omega⟩⟩
        case measure => simp [intOf]; omega
      by_cases hs4 : 1099511627776 < x.at_
      · go_wp2_with fail
        go_roundw
        case rel => exact ⟨k + 1, A, at_, G, N, ao, co, by omega, by go_num, rfl, rfl, ⟨hskip.out, hI.out.own.keep0 ((Chg.refl NoB wr).alloc _), hI.out.m1.chg ((Chg.refl NoB wr).alloc _) nob, hI.out.m2.chg ((Chg.refl NoB wr).alloc _) nob, hI.out.chg.alloc _, by have := hI.out.bd; simp; omega⟩⟩
        case measure => simp [intOf]; omega
      have hw50 : Hid (x.r.txns.length ≤ 50 ∧ x.r.pages.length ≤ 50) := hid (few_tabs hf.out hlt hx.out)
      have hput := hid (hI.out.pl.put (x := x) hg.out.symm hlt hx.out ⟨by omega, by omega⟩ (by omega) (by omega) hok.out hw50.out)
      obtain ⟨X, hX⟩ := named (Obj.cells #[Value.int .i64 x.at_, Value.int .i64 x.r.kind, Value.int .i64 x.r.txn, Value.int .i64 x.r.page, Value.int .i64 x.r.off, Value.int .i64 x.r.prev, Value.int .i64 x.r.next, Value.int .i64 x.r.beg, Value.string x.r.before, Value.string x.r.after, Value.slice a1 x.r.txns.length n1, Value.slice a2 x.r.pages.length n2] 30)
      have cXX : Hid (Chg NoB wr ((wr.alloc X).alloc X)) := hid (((Chg.refl NoB wr).alloc X).alloc X)
      have hOX := hid (hI.out.own.keep0 cXX.out)
      have hEK : Hid (EntK (fun k => OwnB (.slice ao A.length co) k ∨ NewB w k) ((wr.alloc X).alloc X) (x, .slice a1 x.r.txns.length n1, .slice a2 x.r.pages.length n2)) := hid (entK_of HTx.out hok.out (hI.out.chg.trans' cXX.out) (fun k hk => by
        rcases hk with hk | hk
        · have := hI.out.own.ge hk; have := hI.out.bd; omega
        · exact hk))
      have hbX : ((wr.alloc X).alloc X).heap[wr.heap.size + 1]? = some X := by have := blk_new (wr.alloc X) X; rwa [World.size_alloc] at this
      have HBX := hid hbX
      have hAl : A.length ≤ 100000000 := by have := hI.out.pl.nl; omega
      have hbb := hI.out.bd
      rw [hX.out] at cXX hOX hEK HBX
      clear hbX
      go_wp2_with (at_builtin; refine step_appE slEnt rfl _ _ rfl hOX.out rfl (wr.heap.size + 1) x (.slice a1 x.r.txns.length n1) (.slice a2 x.r.pages.length n2) rfl HBX.out rfl ⟨rfl, rfl⟩ hEK.out hAl ?_ ?_)
      case _ => first | omega | (simp; omega)
      intro v5 w5 ho5 hc5 hob5
      obtain ⟨a5, n5, rfl⟩ := ho5.form
      have hx5 := hc5.heap (blk_alloc (blk_new wr (Obj.cells #[Value.int .i64 x.at_, Value.int .i64 x.r.kind, Value.int .i64 x.r.txn, Value.int .i64 x.r.page, Value.int .i64 x.r.off, Value.int .i64 x.r.prev, Value.int .i64 x.r.next, Value.int .i64 x.r.beg, Value.string x.r.before, Value.string x.r.after, Value.slice a1 x.r.txns.length n1, Value.slice a2 x.r.pages.length n2] 30)) _) (fun e => by have := hI.out.own.ge e; omega)
      obtain ⟨k0, k1, k2, k3, _, _, _⟩ := entC_cells (x := x) (v1 := .slice a1 x.r.txns.length n1) (v2 := .slice a2 x.r.pages.length n2) hx5
      have hnr1 : ¬ OwnB (.slice ao A.length co) r1 := fun e => by have := hI.out.own.ge e; omega
      have hnr2 : ¬ OwnB (.slice ao A.length co) (r1 + 1) := fun e => by have := hI.out.own.ge e; omega
      have hm1 := hid ((hI.out.m1.chg cXX.out nob).chg hc5 hnr1)
      have hm2 := hid ((hI.out.m2.chg cXX.out nob).chg hc5 hnr2)
      obtain ⟨c0, hc0⟩ := named ((mget N x.r.txn).getD 0)
      have hcb : 0 ≤ c0 ∧ c0 ≤ 60 := by
        rw [hc0.out]
        cases hm : mget N x.r.txn with
        | none => simp
        | some y => have := hI.out.pl.cnt _ _ hm; simp; omega
      obtain ⟨hcb1, hcb2⟩ := hcb
      have hC5 : Hid (Chg NoB w w5) := hid ((hI.out.chg.trans' cXX.out).trans hc5 fun i hi => .inr (by have := hI.out.own.ge hi; omega))
      have HO5 := hid ho5
      have HX5 := hid hx5
      have hs5 := hc5.size
      have hsX := cXX.out.size
      clear hc5 ho5 hob5 hx5 cXX hOX hEK HBX
      go_upto_region 14 with (first
        | (at_lookup; refine step_lookup_int hm2.out rfl _ _ 39 3 3 rfl Try.underlying39 Try.underlying3 (zero_int _) x.r.txn rfl rfl ?_; rw [← hc0.out])
        | (at_mapUpdate; refine step_mapUpdate hm2.out rfl _ _ _ 39 3 3 rfl Try.underlying39 Try.underlying3 x.r.txn (c0 + 1) rfl rfl rfl ?_; intro w6 hm6 hc6 hs6))
      have hm6' : MapI w6 (r1 + 1) (Value.int .i64) (nInc N x.r.txn) := by unfold nInc; rw [← hc0.out]; exact hm6
      have hM2 := hid hm6'
      have hc6s : Hid (r1 + 2 ≤ w6.heap.size) := hid (by have := hc6.size; omega)
      have hM1 := hid (hm1.out.chg hc6 (fun e => by have h' : r1 = r1 + 1 := e; omega))
      have hO6 := hid (HO5.out.keep hc6 (fun k e => .inl (by have h' : k = r1 + 1 := e; show w.heap.size ≤ k; omega)) (fun k hk e => by have h' : k = r1 + 1 := e; have := HO5.out.ge hk; omega))
      have hx6 := hc6.heap HX5.out (fun e => by have h' : wr.heap.size = r1 + 1 := e; omega)
      have hC6 : Hid (Chg NoB w w6) := hid (hC5.out.trans hc6 fun i hi => .inr (by have h' : i = r1 + 1 := hi; omega))
      obtain ⟨k0, k1, k2, k3, _, _, _⟩ := entC_cells (x := x) (v1 := .slice a1 x.r.txns.length n1) (v2 := .slice a2 x.r.pages.length n2) hx6
      clear hm6 hm6' hc6
      have hgF : gF G x = if (mget G x.r.page).isSome = true ∨ 2 < x.r.kind then G else mput G x.r.page x.at_ := rfl
      have HGF := hid hgF
      clear hgF
      have hend : Hid (∀ (w7 : World), MapI w7 r1 (Value.int .i64) (gF G x) → Chg (OneB r1) w6 w7 → OvW w w7 r1 (r1 + 1) (r1 + 2) l (k + 1) (A ++ [x]) x.at_ (gF G x) (nInc N x.r.txn) (.slice a5 (A ++ [x]).length n5)) := hid (fun w7 hm7 hc7 => by
        refine ⟨hput.out, hO6.out.keep hc7 (fun k e => .inl (by have h' : k = r1 := e; show w.heap.size ≤ k; omega)) (fun k hk e => by have h' : k = r1 := e; have := hO6.out.ge hk; omega), hm7, hM2.out.chg hc7 (fun e => by have h' : r1 + 1 = r1 := e; omega), hC6.out.trans hc7 (fun i hi => .inr (by have h' : i = r1 := hi; omega)), ?_⟩
        have := hc7.size
        have := hc6s.out
        omega)
      cases hq : mget G x.r.page with
      | some y =>
        have HQ := hid hq
        clear hq
        go_wp2_with (at_lookup; refine step_lookup hM1.out rfl _ _ 39 3 3 true rfl Try.underlying39 Try.underlying3 (zero_int _) x.r.page rfl rfl ?_; rw [HQ.out]; simp only [Option.map_some, Option.getD_some, Option.isSome_some, if_true])
        go_roundw
        case rel =>
          refine ⟨k + 1, A ++ [x], x.at_, gF G x, nInc N x.r.txn, a5, n5, by omega, by go_num, rfl, by simp, hend.out _ ?_ (Chg.refl _ _)⟩
          rw [HGF.out, if_pos (.inl (by rw [HQ.out]; rfl))]; exact hM1.out
        case measure => simp [intOf]; omega
      | none =>
        have HQ := hid hq
        clear hq
        by_cases hk2 : x.r.kind ≤ 2
        · go_wp2_with (first
            | (at_lookup; refine step_lookup hM1.out rfl _ _ 39 3 3 true rfl Try.underlying39 Try.underlying3 (zero_int _) x.r.page rfl rfl ?_; rw [HQ.out]; simp only [Option.map_none, Option.getD_none, Option.isSome_none, if_true])
            | (at_mapUpdate; refine step_mapUpdate hM1.out rfl _ _ _ 39 3 3 rfl Try.underlying39 Try.underlying3 x.r.page x.at_ rfl rfl rfl ?_; intro w7 hm7 hc7 hs7))
          go_roundw
          case rel =>
            refine ⟨k + 1, A ++ [x], x.at_, gF G x, nInc N x.r.txn, a5, n5, by omega, by go_num, rfl, by simp, hend.out _ ?_ hc7⟩
            rw [HGF.out, if_neg (by rw [HQ.out]; simp; omega)]; exact hm7
          case measure => simp [intOf]; omega
        · go_wp2_with (at_lookup; refine step_lookup hM1.out rfl _ _ 39 3 3 true rfl Try.underlying39 Try.underlying3 (zero_int _) x.r.page rfl rfl ?_; rw [HQ.out]; simp only [Option.map_none, Option.getD_none, Option.isSome_none, if_true])
          go_roundw
          case rel =>
            refine ⟨k + 1, A ++ [x], x.at_, gF G x, nInc N x.r.txn, a5, n5, by omega, by go_num, rfl, by simp, hend.out _ ?_ (Chg.refl _ _)⟩
            rw [HGF.out, if_pos (.inr (by omega))]; exact hM1.out
          case measure => simp [intOf]; omega
    · obtain rfl : l.length = k := by omega
      obtain ⟨wo, rfl⟩ : ∃ wo : World, wo = wr := ⟨_, rfl⟩
      have hNl := hI.out.pl.nl
      have hOB := hid (OvB.start hI.out.pl)
      go_wp2_with (at_range; refine step_range hI.out.m2 rfl _ 39 3 3 rfl Try.underlying39 rfl ?_; intro w7 hr hg7 hs7)
      go_frame
      have hit : ¬ OwnB (.slice ao A.length co) wo.heap.size := fun e => by have := (hI.out.own.ge e).2; omega
      have HI7 : Hid (OwnE (NewB w) w7 (r1 + 2) (.slice ao A.length co) A ∧ MapI w7 r1 (Value.int .i64) G ∧ Chg NoB w w7 ∧ ¬ OwnB (.slice ao A.length co) wo.heap.size ∧ r1 + 2 ≤ w7.heap.size) := hid ⟨hI.out.own.keep0 hg7, hI.out.m1.chg hg7 nob, hI.out.chg.trans' hg7, hit, by have := hI.out.bd; omega⟩
      have hob := hI.out.bd
      clear hit
      go_loopg [3, 5] N.length (fun gk a3 o5 wr => ∃ (todo : List (Int × Int)) (B : List Ent) (at_ : Int) (ao : Option Addr) (co : Nat), todo.length ≤ gk ∧ RangeI wr wo.heap.size (r1 + 1) (Value.int .i64) N todo ∧ a3 = .int .i64 at_ ∧ o5 = .slice ao B.length co ∧ Hid (OvB A N todo B at_) ∧ Hid (OwnE (NewB w) wr (r1 + 2) (.slice ao B.length co) B ∧ MapI wr r1 (Value.int .i64) G ∧ Chg NoB w wr ∧ ¬ OwnB (.slice ao B.length co) wo.heap.size ∧ r1 + 2 ≤ wr.heap.size))
      case atStart => exact ⟨N, A, at_, ao, co, Nat.le_refl _, hr, rfl, rfl, hOB, HI7⟩
      case round =>
        clear hr hg7 hs7 HI7
        obtain ⟨todo, B, bt, bo, bc, hgk, hr, rfl, rfl, hOB, HI⟩ := hrel
        go_wp2_with (at_next; refine step_next hr rfl _ rfl rfl ?_ ?_)
        · intro h0
          subst h0
          obtain ⟨hd1, hd2⟩ := hOB.out.done
          have hw101 := hOB.out.weight
          have hBl := hOB.out.len
          simp at hBl
          have hG : Hid ((aFold 0 B).G = G) := hid (by rw [hOB.out.g]; exact hI.out.pl.g.symm)
          obtain ⟨P, hP⟩ := named (aPages (aFold 0 B))
          have htab : ([], P, (0 : Int)) = tabsOf B 0 := by unfold tabsOf; rw [if_pos hd1, hd2, hP.out]
          have HT := hid htab
          have HPL : Hid (P.length = G.length) := hid (by rw [hP.out, aPages_len, hG.out])
          have HPG : Hid (∀ (i : Nat) (x r : Int), P[i]? = some (x, r) → mget G x = some r) := hid (fun i x r h => by rw [hP.out] at h; have := aPages_get h; rw [hG.out] at this; exact this)
          have HPS : Hid (∀ (i : Nat) (x y : Int × Int), P[i]? = some x → P[i + 1]? = some y → x.1 < y.1) := hid (fun i x y h1 h2 => by rw [hP.out] at h1 h2; exact aPages_lt (AOk.fold 0 B) h1 h2)
          clear htab hd1 hd2 hr hgk
          go_upto_region 24 with (go_at_call 8; refine (tables_calls _ B 0 _ HI.out.1.ents (by unfold entsW; omega) [] P 0 HT).mono ?_; rintro e w9 ⟨v1, v2, rfl, h1, h2, h3⟩; obtain ⟨a1, n1, rfl⟩ := ownsForm h1; obtain ⟨a2, n2, rfl⟩ := ownsForm h2; replace h1 := hid h1; replace h2 := hid h2; replace h3 := hid h3)
          have hM9 := hid (HI.out.2.1.chg h3.out nob)
          have hlen := (hM9.out.len (P := Try.prog) Try.underlying39 3)
          obtain ⟨_, _, ee, hp1, hp2, hrd⟩ := Rd.of_own (enc := encPg) (size := 2) (fun _ => rfl) h2.out
          cases ee
          have HRD := hid hrd
          have hC9 := hid (HI.out.2.2.1.trans' h3.out)
          have hGl : G.length ≤ 60 := by omega
          rw [HPL.out]
          clear hrd h1 h2 h3 hp1 hp2
          go_wp2_with fail
          go_loopw [135] (fun i wr => ∃ k : Nat, k ≤ G.length ∧ i = .int .i64 k ∧ Hid (Chg NoB w9 wr)) (fun i _ => G.length - (intOf i).toNat)
          case atStart => exact ⟨0, by omega, rfl, Chg.refl _ _⟩
          case round =>
            obtain ⟨k, hk, rfl, hc⟩ := hrel
            by_cases hlt : k < G.length
            · have hltP : k < P.length := by rw [HPL.out]; exact hlt
              obtain ⟨x1, y1, b1, o1, hx1, ea, g0, g1⟩ := pow_at HRD.out hc.out k hltP
              subst ea
              have hget := HPG.out k x1 y1 (by rw [← hx1.out]; exact List.getElem?_eq_getElem hltP)
              have HLQ0 := look_any (P := Try.prog) (V := Value.int .i64) Try.underlying39 Try.underlying3 (hM9.out.chg hc.out nob) zero_int x1 false (res := .int .i64 y1) (by rw [hget]; rfl)
              clear hget
              have hyy : (y1 != y1) = false := by simp
              by_cases hk0 : k = 0
              · subst hk0
                simp only [Nat.zero_mul, Nat.add_zero] at g0 g1
                have hd : decide ((0 : Int) < ((0 : Nat) : Int)) = false := by decide
                have HLQ : ∀ n, (Instr.lookup 39 (.map (some r1)) (.int .i64 x1) false).run Try.prog ((wr.alloc (.cells #[.int .i64 x1, .int .i64 y1] 42)).drewN n) = .ok (.int .i64 y1) ((wr.alloc (.cells #[.int .i64 x1, .int .i64 y1] 42)).drewN n) := fun n => HLQ0.out _ (((Chg.refl NoB wr).alloc _).drewN n)
                go_wp2
                go_quiet (fail)
                go_wp2
                go_roundw
                case rel => exact ⟨1, by omega, by go_num, (hc.out.alloc _).drewN _⟩
                case measure => simp [intOf]; omega
              · obtain ⟨j, rfl⟩ : ∃ j, k = j + 1 := ⟨k - 1, by omega⟩
                obtain ⟨x0, y0, b0, o0, hx0, ea0, f0, f1⟩ := pow_at HRD.out hc.out j (by omega)
                cases ea0
                have hord := HPS.out j (x0, y0) (x1, y1) (by rw [← hx0.out]; exact List.getElem?_eq_getElem _) (by rw [← hx1.out]; exact List.getElem?_eq_getElem hltP)
                dsimp only at hord
                have hd : decide ((0 : Int) < ((j + 1 : Nat) : Int)) = true := decide_eq_true (by omega)
                have hw : IntKind.i64.wrap (j : Int) = (j : Int) := by rw [IntKind.wrap_i64]; omega
                have hjG : j < G.length := by omega
                have HLQ := HLQ0.out (wr.alloc (.cells #[.int .i64 x1, .int .i64 y1] 42)).drew (((Chg.refl NoB wr).alloc _).drew)
                have f2 := (((Chg.refl NoB wr).alloc (.cells #[.int .i64 x1, .int .i64 y1] 42)).drew).cell f0 nob
                go_wp2
                (refine wp_region_reads (by kernel_rfl) (by kernel_rfl) ?_; (repeat still_step); refine wpStill_nil ?_)
                go_wp2
                go_roundw
                case rel => exact ⟨j + 2, by omega, by go_num, (hc.out.alloc _).drew⟩
                case measure => simp [intOf]; omega
            · obtain rfl : G.length = k := by omega
              go_wp2
              go_ret
              exact ⟨rfl, hC9.out.trans' hc.out⟩
        · intro n v todo' w8 hmem hp hsub hr8 hg8 hs8 hen
          have hl8 : todo'.length < gk := by have := hp.length_eq; simp at this; omega
          have hOB8 := hid (hOB.out.put hp)
          have hat := hOB.out.at0
          have hBl := hOB.out.len
          have hnf : fits n := hI.out.pl.nf n (List.mem_map.2 ⟨_, hmem, rfl⟩)
          have hO8 := hid (HI.out.1.keep hg8 (fun k e => .inl (by have h' : k = wo.heap.size := e; show w.heap.size ≤ k; omega)) (fun k hk e => by have h' : k = wo.heap.size := e; exact HI.out.2.2.2.1 (h' ▸ hk)))
          have hM8 := hid (HI.out.2.1.chg hg8 (fun e => by have h' : r1 = wo.heap.size := e; omega))
          have hC8 : Hid (Chg NoB w w8) := hid (HI.out.2.2.1.trans hg8 (fun i hi => .inr (by have h' : i = wo.heap.size := hi; omega)))
          have hEK : Hid (EntK (fun k => OwnB (.slice bo B.length bc) k ∨ NewB w k) (w8.alloc (.cells #[.int .i64 (bt + 1), .int .i64 4, .int .i64 n, .int .i64 0, .int .i64 0, .int .i64 0, .int .i64 0, .int .i64 0, .string ⟨#[]⟩, .string ⟨#[]⟩, .slice none 0 0, .slice none 0 0] 30)) (⟨bt + 1, rEnd n⟩, .slice none 0 0, .slice none 0 0)) := hid (by
            refine ⟨tabs_nil rfl rfl, ?_, ?_, fun k _ => ⟨SlB.nil, SlB.nil⟩⟩
            · unfold fits at hnf
              refine ⟨?_, hnf, ?_, ?_, ?_, ?_, ?_, by simp [rEnd, maxLen, ByteArray.size], by simp [rEnd, maxLen, ByteArray.size], by simp [rEnd], by simp [rEnd]⟩ <;> (unfold fits rEnd; dsimp only; decide)
            · unfold fits; dsimp only; omega)
          have hw8 : r1 + 2 ≤ w8.heap.size := by have := HI.out.2.2.2.2; omega
          have hit8 : wo.heap.size < w8.heap.size := hr8.lt
          have hat1 : 0 ≤ bt := hat.1
          have hat2 : bt ≤ 1100000000000 := by omega
          clear hr hgk hOB hp hnf hg8 hat hs8
          go_wp2_with (at_builtin; refine step_appE slEnt rfl _ _ rfl (hO8.out.keep0 ((Chg.refl NoB w8).alloc _)) rfl w8.heap.size ⟨bt + 1, rEnd n⟩ (.slice none 0 0) (.slice none 0 0) rfl (blk_new _ _) rfl ⟨rfl, rfl⟩ hEK.out ?_ ?_ ?_)
          case _ => omega
          case _ => first | omega | (simp; omega)
          intro v9 w9 ho9 hc9 hob9
          obtain ⟨a9, n9, rfl⟩ := ho9.form
          have hno : ¬ OwnB (.slice bo B.length bc) wo.heap.size := HI.out.2.2.2.1
          have hR9 := (hr8.chg ((Chg.refl NoB w8).alloc (.cells #[.int .i64 (bt + 1), .int .i64 4, .int .i64 n, .int .i64 0, .int .i64 0, .int .i64 0, .int .i64 0, .int .i64 0, .string ⟨#[]⟩, .string ⟨#[]⟩, .slice none 0 0, .slice none 0 0] 30)) nob nob).chg hc9 (fun e => by have := HI.out.1.ge e; omega) hno
          have HI9 : Hid (OwnE (NewB w) w9 (r1 + 2) (.slice a9 (B ++ [(⟨bt + 1, rEnd n⟩ : Ent)]).length n9) (B ++ [(⟨bt + 1, rEnd n⟩ : Ent)]) ∧ MapI w9 r1 (Value.int .i64) G ∧ Chg NoB w w9 ∧ ¬ OwnB (.slice a9 (B ++ [(⟨bt + 1, rEnd n⟩ : Ent)]).length n9) wo.heap.size ∧ r1 + 2 ≤ w9.heap.size) := hid (by
            have hcA := (Chg.refl NoB w8).alloc (.cells #[.int .i64 (bt + 1), .int .i64 4, .int .i64 n, .int .i64 0, .int .i64 0, .int .i64 0, .int .i64 0, .int .i64 0, .string ⟨#[]⟩, .string ⟨#[]⟩, .slice none 0 0, .slice none 0 0] 30)
            refine ⟨ho9, (hM8.out.chg hcA nob).chg hc9 (fun e => by have := HI.out.1.ge e; omega), (hC8.out.trans' hcA).trans hc9 (fun i hi => .inr (by have := HI.out.1.ge hi; omega)), fun e => ?_, ?_⟩
            · rcases hob9 _ e with h | h
              · exact hno h
              · first | omega | (simp at h; omega)
            · have := hc9.size; first | omega | (simp at this; omega))
          clear hob9 hc9 ho9 hno hr8
          go_wp2_with fail
          go_roundg todo'.length
          case measure => exact hl8
          case rel => exact ⟨todo', B ++ [(⟨bt + 1, rEnd n⟩ : Ent)], bt + 1, a9, n9, Nat.le_refl _, hR9, rfl, by simp, hOB8, HI9⟩
end Go.Proofs.Ytipmchdogdemjaa
