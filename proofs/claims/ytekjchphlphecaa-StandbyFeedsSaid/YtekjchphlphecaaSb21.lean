import Derived.Test.YtekjchphlphecaaSortF0
import Derived.Test.YtekjchphlphecaaSb11
import Derived.Test.YtekjchphlphecaaA2
import Derived.Test.YtekjchphlphecaaSb17
import Derived.Test.YtekjchphlphecaaA1
import Derived.Lib.SortBridge
namespace Go.Proofs.Ytekjchphlphecaa
open Go.RowKit Go.ChangeMaps Go.MapKept Go.Sort Go.Shelf Go.Lib
set_option linter.unusedVariables false
set_option linter.unusedSimpArgs false
set_option maxHeartbeats 8000000

theorem Chg.grow {S : Nat → Prop} {a w : World} (h : Chg S a w) (os : Array Obj) : Chg S a (Go.Sort.grow w os) :=
  h.trans (T := S) ⟨rfl, rfl, rfl, by simp, fun k hk _ => heap_grow_old w os hk⟩ fun _ h => .inl h
theorem blk_grow {w : World} {b : Nat} {o : Obj} (h : w.heap[b]? = some o) (os : Array Obj) : (Go.Sort.grow w os).heap[b]? = some o := by
  rw [heap_grow_old w os (lt_of_block h)]; exact h
theorem sort_chg {α : Type} [Inhabited α] {enc : α → Value} {w : World} {b m : Nat} {d dk : Array α} {os : Array Obj} (hH : Holds enc w b 0 d) (h : dk.size = d.size) : Chg (OneB b) w (sortWorld enc w b 0 m dk os) := by
  have e := sorted_world enc w b 0 m d dk.toList os hH (by simpa using h)
  rw [Array.toArray_toList] at e
  unfold sortWorld
  rw [e]
  exact (Chg.setCells _ _ _ ((Chg.refl (OneB b) w).drewN m) (.inl rfl)).grow os
theorem sort_row {α : Type} [Inhabited α] {enc : α → Value} {w : World} {B b m cap : Nat} {e : TypeId} {d dk : Array α} {os : Array Obj} (hH : Holds enc w b 0 d) (h : dk.size = d.size) (ho : w.ownsRow B e 1 (.slice (some ⟨b, 0, none⟩) d.size cap) d.size (d.toList.map enc)) :
    (sortWorld enc w b 0 m dk os).ownsRow B e 1 (.slice (some ⟨b, 0, none⟩) d.size cap) d.size (dk.toList.map enc) := by
  have e1 := sorted_world enc w b 0 m d dk.toList os hH (by simpa using h)
  rw [Array.toArray_toList] at e1
  unfold sortWorld
  rw [e1]
  rcases ho.2 with ⟨h1, _⟩ | ⟨g, cap', cur, h1, h2, h3, h4, h5, h6, h7⟩
  · cases h1
  · cases h1
    have hb := blk_grow (setCells_blk (dk.toList.map enc) 0 (w.drewN m) cur h3) os
    refine ⟨by simpa using h, .inr ⟨_, _, _, rfl, h2, hb, h4, h5, by rw [setL_size]; exact h6, ?_⟩⟩
    rw [setL_list _ _ _ (by simp; omega)]
    simp only [List.take_zero, List.nil_append, Nat.zero_add, Nat.mul_one]
    exact List.take_left' (by simpa using h)

/-- A falling list by a measure is one alone. -/
theorem fall_ext {f : Int → Int} : ∀ {a b : List Int}, a.Pairwise (fun x y => f y < f x) → b.Pairwise (fun x y => f y ≤ f x) → a.Perm b → a = b := by
  intro a
  induction a with
  | nil => intro b _ _ h; exact (List.nil_perm.1 h).symm
  | cons x a ih =>
    intro b ha hb h
    cases b with
    | nil => exact absurd h.length_eq (by simp)
    | cons y b =>
      rw [List.pairwise_cons] at ha hb
      have hxy : x = y := by
        have h1 := h.mem_iff.1 (List.mem_cons_self (a := x) (l := a))
        have h2 := h.mem_iff.2 (List.mem_cons_self (a := y) (l := b))
        rcases List.mem_cons.1 h1 with h1 | h1
        · exact h1
        · rcases List.mem_cons.1 h2 with h2 | h2
          · exact h2.symm
          · have := hb.1 x h1
            have := ha.1 y h2
            omega
      subst hxy
      rw [ih ha.2 hb.2 (h.cons_inv)]

theorem compI_lt (a b : Int) : decide (cmpI a b < 0) = decide (a < b) := by
  unfold cmpI
  split
  · simp_all
  · split <;> simp_all
set_option maxRecDepth 100000 in
theorem sort_calls (w0 : World) (p g rl : Nat) (lv : Value) (s : SS) (tb : Nat) (B : Nat) (v : Value) (ks ys : List Int) (w : World) (h : StAt w0 w p g rl lv s) (ht : w.cell? ⟨tb, 0, none⟩ = some (.pointer (some ⟨p, 0, none⟩)))
    (hv : w.ownsRow B 3 1 v ks.length (ks.map (Value.int .i64))) (hno : ∀ k, OwnB v k → ¬ stFp p g rl lv k ∧ k ≠ tb ∧ w0.heap.size ≤ k) (hl : ks.length ≤ 1000000)
    (hp : ys.Perm ks) (hy : ys.Pairwise (fun a b => (mget s.last b).getD 0 < (mget s.last a).getD 0)) :
    Calls Try.prog 34 #[v, .func (.func 35) #[] #[.pointer (some ⟨tb, 0, none⟩)]] w fun e w' => e = .returned (.tuple #[]) ∧ Hid (w'.ownsRow B 3 1 v ys.length (ys.map (Value.int .i64))) ∧ Hid (Chg (OwnB v) w w') := by
  have hlen := hp.length_eq
  rcases List.eq_nil_or_concat ks with rfl | ⟨k1, k2, hk⟩
  · have : ys = [] := List.perm_nil.1 hp
    subst this
    obtain ⟨ao, co, rfl⟩ := ownsForm hv
    refine (AnyF.slices_SortFunc_none (P := Try.prog) (ρ := Try.sortF_ren) { Try.sortF with } ao co _ w).mono ?_
    rintro e w' ⟨rfl, rfl⟩
    exact ⟨rfl, hid hv, Chg.refl _ _⟩
  · have hne : 0 < ks.length := by rw [hk]; simp
    obtain ⟨g1, cap, post, rfl, hg1, hgb, hcap, _⟩ := own_post hv hne
    let α := { k : Int // k ∈ ks }
    haveI : Inhabited α := ⟨⟨ks[0], List.getElem_mem hne⟩⟩
    let f : Int → Int := fun k => (mget s.last k).getD 0
    let enc : α → Value := fun x => .int .i64 x.1
    let cf : α → α → Int := fun a b => cmpI (f b.1) (f a.1)
    let d : Array α := ks.attach.toArray
    have hdl : d.size = ks.length := by show ks.attach.toArray.size = _; rw [List.size_toArray]; exact List.length_attach
    have hde : d.toList.map enc = ks.map (Value.int .i64) := by
      show (ks.attach.map (fun x => Value.int .i64 x.1)) = _
      have := congrArg (List.map (Value.int .i64)) (List.attach_map_subtype_val ks)
      rw [List.map_map] at this
      exact this
    have hlt : ∀ x y : α, ltOf cf x y = decide (f y.1 < f x.1) := fun x y => compI_lt _ _
    have hO : SWO (ltOf cf) := by
      refine ⟨fun x => ?_, fun x y z h1 h2 => ?_, fun x y z h1 h2 => ?_⟩
      · rw [hlt]; simp
      · rw [hlt] at *; simp at *; omega
      · rw [hlt] at *; simp at *; omega
    have hinj : ∀ a ∈ ys, ∀ b ∈ ys, f a = f b → a = b := fun a ha b hb e => by
      obtain ⟨i, hi, rfl⟩ := List.getElem_of_mem ha
      obtain ⟨j, hj, rfl⟩ := List.getElem_of_mem hb
      rcases Nat.lt_trichotomy i j with h1 | h1 | h1
      · have := List.pairwise_iff_getElem.1 hy i j hi hj h1
        simp only [f] at e; omega
      · subst h1; rfl
      · have := List.pairwise_iff_getElem.1 hy j i hj hi h1
        simp only [f] at e; omega
    have hT : ∀ x y, (ltOf cf) x y = false → (ltOf cf) y x = false → x = y := fun x y h1 h2 => by
      rw [hlt] at h1 h2
      simp at h1 h2
      exact Subtype.ext (hinj x.1 (hp.mem_iff.2 x.2) y.1 (hp.mem_iff.2 y.2) (by omega))
    have hH : Holds enc w g1 0 d := fun j hj => by
      have hj2 : j < ks.length := by omega
      constructor
      · rw [Nat.zero_add, cell_blk hgb, List.getElem?_toArray, List.getElem?_append_left (by simpa using hj2)]
        simp [enc, d, hj2]
        rw [List.getElem?_eq_getElem (by rw [List.length_attach]; exact hj2), Option.getD_some]
        rw [List.getElem_attach]
      · rw [frozen_blk hgb]
    have hno1 := hno g1 (by simp [OwnB, Value.ownBlock])
    have hcmp : CmpLays1 Try.prog 35 #[.pointer (some ⟨tb, 0, none⟩)] enc cf g1 0 d.size w := fun m os dk hs x y => by
      have hc := sort_chg (m := m) (os := os) hH hs
      have hS := h.keep hc (fun k hk => by have h' : k = g1 := hk; rw [h']; exact ⟨hno1.1, .inl hno1.2.2⟩)
      have hcall := prom1_calls w0 p g rl lv s tb x.1 y.1 _ hS (hc.cell ht (fun e => hno1.2.1 (Eq.symm e))) (cf x y) rfl
      exact hcall.mono fun e w' ⟨he, hw⟩ => ⟨he, 1, #[], by rw [grow_empty]; exact hw⟩
    have eg : ∀ args w, (callFunc 35 args).run Try.prog w = .ok (.enter 35 args) w := enters_of Try.func35 (by kernel_rfl) rfl
    have hS := Any.slices_SortFunc_total Try.sortF enc (fun _ => rfl) cf hO 35 #[.pointer (some ⟨tb, 0, none⟩)] g1 0 cap d w eg hcmp hH (lt_of_block hgb) (by rw [hdl]; omega) hT
    rw [hdl] at hS
    refine Calls.mono hS ?_
    rintro e w' ⟨rfl, n, os, rfl⟩
    have hsz : ((d.toList.mergeSort fun x y => !(ltOf cf) y x).toArray).size = d.size := by simp
    have hr := sort_row (m := n) (os := os) (cap := cap) hH hsz (by rw [hdl, hde]; exact hv)
    have hys : (d.toList.mergeSort fun x y => !(ltOf cf) y x).map (fun x => x.1) = ys := by
      refine (fall_ext (f := f) hy ?_ ?_).symm
      · rw [List.pairwise_map]
        have := List.pairwise_mergeSort (le := fun x y : α => !(ltOf cf) y x) (fun a b c h1 h2 => by
          simp only [Bool.not_eq_true', hlt, decide_eq_false_iff_not] at *; omega) (fun a b => by
          simp only [Bool.or_eq_true, Bool.not_eq_true', hlt, decide_eq_false_iff_not]; omega) d.toList
        refine this.imp fun {a b} h3 => ?_
        simp only [Bool.not_eq_true', hlt, decide_eq_false_iff_not] at h3
        omega
      · refine hp.trans ?_
        have h3 := ((List.mergeSort_perm d.toList (fun x y => !(ltOf cf) y x)).map (fun x => x.1)).symm
        have h4 : d.toList.map (fun x => x.1) = ks := List.attach_map_subtype_val ks
        rwa [h4] at h3
    refine ⟨rfl, hid ?_, hid ((sort_chg hH hsz).mono fun i hi => .inl (by have h' : i = g1 := hi; simp [OwnB, Value.ownBlock, h']))⟩
    rw [hdl] at hr
    rw [hlen]
    have e2 : ((d.toList.mergeSort fun x y => !(ltOf cf) y x).toArray).toList.map enc = ys.map (Value.int .i64) := by
      rw [← hys, List.map_map]; rfl
    rwa [e2] at hr
end Go.Proofs.Ytekjchphlphecaa
