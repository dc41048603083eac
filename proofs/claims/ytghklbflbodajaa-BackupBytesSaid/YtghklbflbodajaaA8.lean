import Derived.Test.YtghklbflbodajaaA1
namespace Go.Proofs.Ytghklbflbodajaa
open Go.RowKit Go.ChangeMaps
set_option linter.unusedVariables false
set_option linter.unusedSimpArgs false
set_option linter.unnecessarySimpa false

/-! ### maps as lists -/
section mp
variable {ν : Type}
theorem mget_none_iff {m : List (Int × ν)} {k : Int} : mget m k = none ↔ k ∉ m.map (·.1) := by
  unfold mget
  rw [Option.map_eq_none_iff, List.find?_eq_none]
  constructor
  · intro h hk
    obtain ⟨p, hp, rfl⟩ := List.mem_map.1 hk
    simpa using h p hp
  · intro h p hp
    have : p.1 ≠ k := fun e => h (e ▸ List.mem_map.2 ⟨p, hp, rfl⟩)
    simpa using this
theorem mget_nil (k : Int) : mget ([] : List (Int × ν)) k = none := rfl
theorem mget_cons (p : Int × ν) (m : List (Int × ν)) (k : Int) : mget (p :: m) k = if p.1 = k then some p.2 else mget m k := by
  unfold mget
  rw [List.find?_cons]
  by_cases h : p.1 = k
  · simp [h]
  · have : (p.1 == k) = false := by simpa using h
    rw [this, if_neg h]
theorem mget_append_new (m : List (Int × ν)) (k : Int) (v : ν) (j : Int) (h : mget m k = none) : mget (m ++ [(k, v)]) j = if j = k then some v else mget m j := by
  induction m with
  | nil =>
    rw [List.nil_append, mget_cons, mget_nil]
    by_cases h1 : k = j
    · rw [if_pos h1, if_pos h1.symm]
    · rw [if_neg h1, if_neg (fun e => h1 e.symm)]
  | cons p m ih =>
    rw [mget_cons] at h
    split at h
    · cases h
    · rename_i hp
      rw [List.cons_append, mget_cons, ih h, mget_cons]
      by_cases h1 : p.1 = j
      · rw [if_pos h1, if_pos h1, if_neg (fun e => hp (h1.trans e))]
      · rw [if_neg h1, if_neg h1]
theorem mget_upd (m : List (Int × ν)) (k : Int) (v : ν) (j : Int) : mget (m.map (fun p => if p.1 == k then (k, v) else p)) j = if j = k then (mget m k).map (fun _ => v) else mget m j := by
  induction m with
  | nil => simp [mget_nil]
  | cons p m ih =>
    rw [List.map_cons, mget_cons, ih, mget_cons, mget_cons]
    by_cases h1 : p.1 = k
    · have h2 : (p.1 == k) = true := by simpa using h1
      rw [h2]
      simp only [if_true]
      by_cases h3 : k = j
      · rw [if_pos h3, if_pos h3.symm, if_pos h1]; rfl
      · rw [if_neg h3, if_neg (fun e => h3 e.symm), if_neg (fun e => h3 e.symm), if_neg (fun e => h3 (h1.symm.trans e))]
    · have h2 : (p.1 == k) = false := by simpa using h1
      rw [h2]
      simp only [Bool.false_eq_true, if_false]
      by_cases h3 : p.1 = j
      · rw [if_pos h3, if_pos h3, if_neg (fun e => h1 (h3.trans e))]
      · rw [if_neg h3, if_neg h3, if_neg h1]
theorem mput_cases (m : List (Int × ν)) (k : Int) (v : ν) : (mget m k = none ∧ mput m k v = m ++ [(k, v)]) ∨ ((mget m k).isSome = true ∧ mput m k v = m.map (fun p => if p.1 == k then (k, v) else p)) := by
  cases h : mget m k with
  | none =>
    left
    have hn := mget_none_iff.1 h
    have : m.any (fun p => p.1 == k) = false := by
      rw [List.any_eq_false]
      intro p hp e
      exact hn (List.mem_map.2 ⟨p, hp, by simpa using e⟩)
    exact ⟨rfl, by simp [mput, this]⟩
  | some x =>
    right
    have hn : k ∈ m.map (·.1) := by
      rcases Decidable.em (k ∈ m.map (·.1)) with h1 | h1
      · exact h1
      · rw [mget_none_iff.2 h1] at h; cases h
    have : m.any (fun p => p.1 == k) = true := by
      rw [List.any_eq_true]
      obtain ⟨p, hp, e⟩ := List.mem_map.1 hn
      exact ⟨p, hp, by simpa using e⟩
    exact ⟨rfl, by simp [mput, this]⟩
theorem mget_mput (m : List (Int × ν)) (k : Int) (v : ν) (j : Int) : mget (mput m k v) j = if j = k then some v else mget m j := by
  rcases mput_cases m k v with ⟨h1, h2⟩ | ⟨h1, h2⟩
  · rw [h2, mget_append_new _ _ _ _ h1]
  · rw [h2, mget_upd]
    obtain ⟨x, hx⟩ := Option.isSome_iff_exists.1 h1
    rw [hx]; rfl
theorem mput_keys (m : List (Int × ν)) (k : Int) (v : ν) : (mput m k v).map (·.1) = if mget m k = none then m.map (·.1) ++ [k] else m.map (·.1) := by
  rcases mput_cases m k v with ⟨h1, h2⟩ | ⟨h1, h2⟩
  · rw [h2, if_pos h1]; simp
  · rw [h2, if_neg (fun e => by rw [e] at h1; cases h1), List.map_map]
    refine List.map_congr_left fun p hp => ?_
    simp only [Function.comp_def]
    split
    · rename_i h; have h2 : p.1 = k := by simpa using h
      exact h2.symm
    · rfl
theorem mput_nodup {m : List (Int × ν)} (h : (m.map (·.1)).Nodup) (k : Int) (v : ν) : ((mput m k v).map (·.1)).Nodup := by
  rw [mput_keys]
  split
  · rename_i h1
    rw [List.nodup_append]
    exact ⟨h, by simp, fun a ha b hb e => by
      have : b = k := by simpa using hb
      exact mget_none_iff.1 h1 (this ▸ e ▸ ha)⟩
  · exact h
theorem mput_len (m : List (Int × ν)) (k : Int) (v : ν) : (mput m k v).length ≤ m.length + 1 := by
  rcases mput_cases m k v with ⟨h1, h2⟩ | ⟨h1, h2⟩ <;> rw [h2] <;> simp
theorem mget_mdel {m : List (Int × ν)} (k : Int) (j : Int) : mget (mdel m k) j = if j = k then none else mget m j := by
  induction m with
  | nil => simp [mdel, mget_nil]
  | cons p m ih =>
    unfold mdel at ih ⊢
    rw [List.filter_cons, mget_cons]
    by_cases h1 : p.1 = k
    · have h2 : (!(p.1 == k)) = false := by simpa using h1
      rw [h2]
      simp only [Bool.false_eq_true, if_false]
      rw [ih]
      by_cases h3 : j = k
      · rw [if_pos h3, if_pos h3]
      · rw [if_neg h3, if_neg h3, if_neg (fun e => h3 (e.symm.trans h1))]
    · have h2 : (!(p.1 == k)) = true := by simpa using h1
      rw [h2]
      simp only [if_true]
      rw [mget_cons, ih]
      by_cases h3 : p.1 = j
      · rw [if_pos h3, if_pos h3, if_neg (fun e => h1 (h3.trans e))]
      · rw [if_neg h3, if_neg h3]
theorem mdel_nodup {m : List (Int × ν)} (h : (m.map (·.1)).Nodup) (k : Int) : ((mdel m k).map (·.1)).Nodup :=
  List.Nodup.sublist (List.Sublist.map _ List.filter_sublist) h
theorem mdel_len (m : List (Int × ν)) (k : Int) : (mdel m k).length ≤ m.length := List.length_filter_le _ _
end mp

abbrev Row3 := Int × Int × Int
/-- What is gathered. -/
structure AT where
  T : List (Int × Row3)
  G : List (Int × Int)

def mrgT (o : Option Row3) (x : Row3) : Row3 := match o with | some o => (x.1, min o.2.1 x.2.1, max o.2.2 x.2.2) | none => x
def mrgP (o : Option Int) (r : Int) : Int := match o with | some o => min o r | none => r
def aTxn (T : List (Int × Row3)) (x : Row3) : List (Int × Row3) := mput T x.1 (mrgT (mget T x.1) x)
def aPage (G : List (Int × Int)) (x : Int × Int) : List (Int × Int) := mput G x.1 (mrgP (mget G x.1) x.2)
def aRow (T : List (Int × Row3)) (txn at_ : Int) : Row3 := (txn, (match mget T txn with | some o => o.2.1 | none => at_), at_)
/-- An entry goes by. -/
def aEnt (c : Int) (s : AT) (x : Ent) : AT :=
  if x.r.kind = 1 ∨ x.r.kind = 2 then ⟨mput s.T x.r.txn (aRow s.T x.r.txn x.at_), if (mget s.G x.r.page).isSome then s.G else mput s.G x.r.page x.at_⟩
  else if x.r.kind = 3 ∨ x.r.kind = 4 then ⟨mdel s.T x.r.txn, s.G⟩
  else if x.r.kind = 6 then (if x.r.beg = c then ⟨x.r.txns.foldl aTxn s.T, x.r.pages.foldl aPage s.G⟩ else s)
  else s
def aStep (c : Int) (s : AT) (x : Ent) : AT := if c ≤ x.at_ then aEnt c s x else s
def aFold (c : Int) (l : List Ent) : AT := l.foldl (aStep c) ⟨[], []⟩
def aRows (s : AT) : List Row3 := (sortI (s.T.map (·.1))).map (fun n => (mget s.T n).getD (0, 0, 0))
def aPages (s : AT) : List (Int × Int) := (sortI (s.G.map (·.1))).map (fun n => (n, (mget s.G n).getD 0))
def isBegin (c : Int) (x : Ent) : Bool := x.at_ == c && x.r.kind == 5
/-- The error. -/
def aErr (l : List Ent) (c : Int) : Int := if risesB l then (if c ≠ 0 ∧ l.any (isBegin c) = false then 7 else 0) else 3
/-- What Tables tells. -/
def tabsOf (l : List Ent) (c : Int) : List Row3 × List (Int × Int) × Int := if aErr l c = 0 then (aRows (aFold c l), aPages (aFold c l), 0) else ([], [], aErr l c)

/-- The keys are of one kind each. -/
structure AOk (s : AT) : Prop where
  t : (s.T.map (·.1)).Nodup
  g : (s.G.map (·.1)).Nodup
theorem AOk.nil : AOk ⟨[], []⟩ := ⟨by simp, by simp⟩
theorem aTxns_nodup (l : List Row3) : ∀ T : List (Int × Row3), (T.map (·.1)).Nodup → ((l.foldl aTxn T).map (·.1)).Nodup := by
  induction l with
  | nil => intro T h; exact h
  | cons x l ih => intro T h; exact ih _ (mput_nodup h _ _)
theorem aPages_nodup (l : List (Int × Int)) : ∀ T : List (Int × Int), (T.map (·.1)).Nodup → ((l.foldl aPage T).map (·.1)).Nodup := by
  induction l with
  | nil => intro T h; exact h
  | cons x l ih => intro T h; exact ih _ (mput_nodup h _ _)
theorem AOk.ent {s : AT} (h : AOk s) (c : Int) (x : Ent) : AOk (aEnt c s x) := by
  unfold aEnt
  split
  · refine ⟨mput_nodup h.t _ _, ?_⟩
    dsimp only
    split
    · exact h.g
    · exact mput_nodup h.g _ _
  · split
    · exact ⟨mdel_nodup h.t _, h.g⟩
    · split
      · split
        · exact ⟨aTxns_nodup _ _ h.t, aPages_nodup _ _ h.g⟩
        · exact h
      · exact h
theorem AOk.step {s : AT} (h : AOk s) (c : Int) (x : Ent) : AOk (aStep c s x) := by
  unfold aStep
  split
  · exact h.ent c x
  · exact h
theorem AOk.foldl {c : Int} (l : List Ent) : ∀ {s : AT}, AOk s → AOk (l.foldl (aStep c) s) := by
  induction l with
  | nil => intro s h; exact h
  | cons x l ih => intro s h; exact ih (h.step c x)
theorem AOk.fold (c : Int) (l : List Ent) : AOk (aFold c l) := AOk.foldl l AOk.nil

/-- Two that say the same. -/
structure ASame (s u : AT) : Prop where
  t : ∀ n, mget s.T n = mget u.T n
  g : ∀ n, mget s.G n = mget u.G n
theorem keys_same {ν : Type} {a b : List (Int × ν)} (h : ∀ n, mget a n = mget b n) (x : Int) : x ∈ a.map (·.1) ↔ x ∈ b.map (·.1) := by
  have h1 := mget_none_iff (m := a) (k := x)
  have h2 := mget_none_iff (m := b) (k := x)
  rw [h x] at h1
  constructor
  · intro h3
    exact Decidable.byContradiction fun h4 => (h1.1 (h2.2 h4)) h3
  · intro h3
    exact Decidable.byContradiction fun h4 => (h2.1 (h1.2 h4)) h3
theorem ASame.rows {s t : AT} (h : ASame s t) (hs : AOk s) (ht : AOk t) : aRows s = aRows t := by
  unfold aRows
  rw [sortI_ext hs.t ht.t (keys_same h.t)]
  congr 1
  funext n
  rw [h.t n]
theorem ASame.pages {s t : AT} (h : ASame s t) (hs : AOk s) (ht : AOk t) : aPages s = aPages t := by
  unfold aPages
  rw [sortI_ext hs.g ht.g (keys_same h.g)]
  congr 1
  funext n
  rw [h.g n]
end Go.Proofs.Ytghklbflbodajaa

namespace Go.Proofs.Ytghklbflbodajaa
open Go.RowKit Go.ChangeMaps Go.MapKept
set_option linter.unusedVariables false
set_option linter.unusedSimpArgs false
set_option linter.unnecessarySimpa false

def VRow (x : Row3) : Value := .agg #[.int .i64 x.1, .int .i64 x.2.1, .int .i64 x.2.2]
/-- The tables, as they are gathered. -/
structure AnAt (w : World) (p rt rp : Nat) (c : Int) (s : AT) : Prop where
  blk : w.heap[p]? = some (.cells #[.int .i64 c, .map (some rt), .map (some rp)] 122 (0, 0))
  mt : MapI w rt VRow s.T
  mp : MapI w rp (Value.int .i64) s.G
  ne : p ≠ rt ∧ p ≠ rp ∧ rt ≠ rp
def AnB (rt rp : Nat) : Nat → Prop := fun k => k = rt ∨ k = rp

theorem AnAt.keep {w w' : World} {p rt rp : Nat} {c : Int} {s : AT} {S : Nat → Prop} (h : AnAt w p rt rp c s) (hc : Chg S w w') (h1 : ¬ S p) (h2 : ¬ S rt) (h3 : ¬ S rp) : AnAt w' p rt rp c s :=
  ⟨hc.heap h.blk h1, h.mt.chg hc h2, h.mp.chg hc h3, h.ne⟩
theorem AnAt.keep0 {w w' : World} {p rt rp : Nat} {c : Int} {s : AT} (h : AnAt w p rt rp c s) (hc : Chg NoB w w') : AnAt w' p rt rp c s := h.keep hc (fun e => e) (fun e => e) (fun e => e)
theorem AnAt.cells {w : World} {p rt rp : Nat} {c : Int} {s : AT} (h : AnAt w p rt rp c s) : w.cell? ⟨p, 0, none⟩ = some (.int .i64 c) ∧ w.cell? ⟨p, 1, none⟩ = some (.map (some rt)) ∧ w.cell? ⟨p, 2, none⟩ = some (.map (some rp)) := by
  refine ⟨?_, ?_, ?_⟩ <;> rw [cell_blk h.blk] <;> rfl
theorem AnAt.putT {w w' : World} {p rt rp : Nat} {c : Int} {s : AT} (h : AnAt w p rt rp c s) {T : List (Int × Row3)} (hm : MapI w' rt VRow T) (hc : Chg (OneB rt) w w') : AnAt w' p rt rp c ⟨T, s.G⟩ :=
  ⟨hc.heap h.blk (fun e => h.ne.1 e), hm, h.mp.chg hc (fun e => h.ne.2.2 e.symm), h.ne⟩
theorem AnAt.putG {w w' : World} {p rt rp : Nat} {c : Int} {s : AT} (h : AnAt w p rt rp c s) {G : List (Int × Int)} (hm : MapI w' rp (Value.int .i64) G) (hc : Chg (OneB rp) w w') : AnAt w' p rt rp c ⟨s.T, G⟩ :=
  ⟨hc.heap h.blk (fun e => h.ne.2.1 e), h.mt.chg hc (fun e => h.ne.2.2 e), hm, h.ne⟩

theorem zero_int (w : World) : (zeroValue 3).run Try.prog w = .ok (.int .i64 0) w := by kernel_rfl
theorem zero_row (w : World) : (zeroValue 104).run Try.prog w = .ok (VRow (0, 0, 0)) w := by kernel_rfl

set_option maxRecDepth 100000 in
set_option maxHeartbeats 4000000 in
theorem page_calls (p rt rp : Nat) (c : Int) (s : AT) (n r : Int) (w : World) (h : AnAt w p rt rp c s) :
    Calls Try.prog 67 #[.pointer (some ⟨p, 0, none⟩), .int .i64 n, .int .i64 r] w fun e w' => e = .returned (.tuple #[]) ∧ AnAt w' p rt rp c ⟨s.T, aPage s.G (n, r)⟩ ∧ Chg (OneB rp) w w' := by
  obtain ⟨c0, c1, c2⟩ := h.cells
  have HH := hid h
  clear h
  cases hm : mget s.G n with
  | none =>
    have HM := hid hm
    clear hm
    go_enter Try.func67, Try.ntmps67
    go_wp2_with (first
      | (at_lookup; refine step_lookup HH.out.mp rfl _ _ 120 3 3 true rfl Try.underlying120 Try.underlying3 (zero_int _) n rfl rfl ?_; rw [HM.out]; simp only [Option.map_none, Option.getD_none, Option.isSome_none, if_true])
      | (at_mapUpdate; refine step_mapUpdate HH.out.mp rfl _ _ _ 120 3 3 rfl Try.underlying120 Try.underlying3 n r rfl rfl rfl ?_; intro w2 hm2 hc2 hs2))
    go_end0
    refine ⟨rfl, HH.out.putG ?_ hc2, hc2⟩
    unfold aPage mrgP
    rw [HM.out]; exact hm2
  | some o =>
    have HM := hid hm
    clear hm
    by_cases hlt : r < o
    · have hmin := hid (show min o r = r by omega)
      go_enter Try.func67, Try.ntmps67
      go_wp2_with (first
        | (at_lookup; refine step_lookup HH.out.mp rfl _ _ 120 3 3 true rfl Try.underlying120 Try.underlying3 (zero_int _) n rfl rfl ?_; rw [HM.out]; simp only [Option.map_some, Option.getD_some, Option.isSome_some, if_true])
        | (at_mapUpdate; refine step_mapUpdate HH.out.mp rfl _ _ _ 120 3 3 rfl Try.underlying120 Try.underlying3 n r rfl rfl rfl ?_; intro w2 hm2 hc2 hs2))
      go_end0
      refine ⟨rfl, HH.out.putG ?_ hc2, hc2⟩
      unfold aPage mrgP
      rw [HM.out]; dsimp only; rw [hmin.out]; exact hm2
    · have hmin := hid (show min o r = o by omega)
      go_enter Try.func67, Try.ntmps67
      go_wp2_with (first
        | (at_lookup; refine step_lookup HH.out.mp rfl _ _ 120 3 3 true rfl Try.underlying120 Try.underlying3 (zero_int _) n rfl rfl ?_; rw [HM.out]; simp only [Option.map_some, Option.getD_some, Option.isSome_some, if_true])
        | (at_mapUpdate; refine step_mapUpdate HH.out.mp rfl _ _ _ 120 3 3 rfl Try.underlying120 Try.underlying3 n o rfl rfl rfl ?_; intro w2 hm2 hc2 hs2))
      go_end0
      refine ⟨rfl, HH.out.putG ?_ hc2, hc2⟩
      unfold aPage mrgP
      rw [HM.out]; dsimp only; rw [hmin.out]; exact hm2

/-- A row's cells. -/
def rowO (x : Row3) : Obj := .cells #[.int .i64 x.1, .int .i64 x.2.1, .int .i64 x.2.2] 104

set_option maxRecDepth 100000 in
set_option maxHeartbeats 8000000 in
theorem txn_calls (p rt rp : Nat) (c : Int) (s : AT) (x : Row3) (w : World) (h : AnAt w p rt rp c s) :
    Calls Try.prog 66 #[.pointer (some ⟨p, 0, none⟩), VRow x] w fun e w' => e = .returned (.tuple #[]) ∧ AnAt w' p rt rp c ⟨aTxn s.T x, s.G⟩ ∧ Chg (OneB rt) w w' := by
  obtain ⟨c0, c1, c2⟩ := h.cells
  have HH := hid h
  clear h
  obtain ⟨x1, x2, x3⟩ := x
  unfold VRow
  dsimp only
  have b1 := World.new_ne w ⟨p, 1, none⟩ c1
  have b2 : w.heap.size + 1 ≠ p := by have := lt_of_block HH.out.blk; omega
  have HA := hid (HH.out.mt.chg ((Chg.refl NoB w).alloc (.cells #[.int .i64 x1, .int .i64 x2, .int .i64 x3] 104)) (fun e => e))
  cases hm : mget s.T x1 with
  | none =>
    have HM := hid hm
    clear hm
    go_enter Try.func66, Try.ntmps66
    have HS : Hid (∀ w' : World, Chg NoB (w.alloc (.cells #[.int .i64 x1, .int .i64 x2, .int .i64 x3] 104)) w' → w'.cell? ⟨p, 1, none⟩ = some (.map (some rt)) ∧ w'.cell? ⟨w.heap.size, 0, none⟩ = some (.int .i64 x1) ∧ (Instr.lookup 119 (.map (some rt)) (.int .i64 x1) true).run Try.prog w' = .ok (.tuple #[.agg #[.int .i64 0, .int .i64 0, .int .i64 0], .bool false]) w') := hid (fun w' hw => by
      refine ⟨hw.cell (((Chg.refl NoB w).alloc _).cell c1 (fun e => e)) (fun e => e), hw.cell (by rw [cell_blk (blk_new _ _)]; rfl) (fun e => e), ?_⟩
      have := (HA.out.chg hw (fun e => e)).lookup (P := Try.prog) Try.underlying119 Try.underlying3 (zero_row _) x1 true
      rw [HM.out] at this
      simpa [VRow] using this)
    go_wp2
    go_region_held3 (fun w' => w'.cell? ⟨p, 1, none⟩ = some (.map (some rt)) ∧ w'.cell? ⟨w.heap.size, 0, none⟩ = some (.int .i64 x1) ∧ (Instr.lookup 119 (.map (some rt)) (.int .i64 x1) true).run Try.prog w' = .ok (.tuple #[.agg #[.int .i64 0, .int .i64 0, .int .i64 0], .bool false]) w') (first | exact HS.out _ ((Chg.refl NoB _).drew) | exact HS.out _ (((Chg.refl NoB _).drew).alloc _)) (fail)
    all_goals
      go_wp2
      (refine wp_region_tail 7 (by kernel_rfl) (by kernel_rfl) ?_; simp only [List.take_succ_cons, List.take_zero, List.drop_succ_cons, List.drop_zero]; (repeat still_step); refine wpStill_nil ?_; change wpList _ _ _ _ _ _)
      refine step_mapUpdate ((HA.out.chg ((Chg.refl NoB _).alloc _) nob).drew.drew) rfl _ _ _ 119 3 104 rfl Try.underlying119 Try.underlying3 x1 (x1, x2, x3) rfl rfl rfl ?_
      intro w2 hm2 hc2 hs2
      go_wp2
      go_end0
      have hcc : Chg (OneB rt) w w2 := (((((Chg.refl (OneB rt) w).alloc _).alloc _).drew).drew).trans' hc2
      refine ⟨rfl, HH.out.putT ?_ hcc, hcc⟩
      unfold aTxn mrgT
      rw [HM.out]; exact hm2
  | some o =>
    obtain ⟨o1, o2, o3⟩ := o
    have HM := hid hm
    clear hm
    have HS : Hid (∀ w' : World, Chg NoB (w.alloc (.cells #[.int .i64 x1, .int .i64 x2, .int .i64 x3] 104)) w' → w'.cell? ⟨p, 1, none⟩ = some (.map (some rt)) ∧ w'.cell? ⟨w.heap.size, 0, none⟩ = some (.int .i64 x1) ∧ (Instr.lookup 119 (.map (some rt)) (.int .i64 x1) true).run Try.prog w' = .ok (.tuple #[.agg #[.int .i64 o1, .int .i64 o2, .int .i64 o3], .bool true]) w') := hid (fun w' hw => by
      refine ⟨hw.cell (((Chg.refl NoB w).alloc _).cell c1 (fun e => e)) (fun e => e), hw.cell (by rw [cell_blk (blk_new _ _)]; rfl) (fun e => e), ?_⟩
      have := (HA.out.chg hw (fun e => e)).lookup (P := Try.prog) Try.underlying119 Try.underlying3 (zero_row _) x1 true
      rw [HM.out] at this
      simpa [VRow] using this)
    go_wp2
    go_region_held3 (fun w' => w'.cell? ⟨p, 1, none⟩ = some (.map (some rt)) ∧ w'.cell? ⟨w.heap.size, 0, none⟩ = some (.int .i64 x1) ∧ (Instr.lookup 119 (.map (some rt)) (.int .i64 x1) true).run Try.prog w' = .ok (.tuple #[.agg #[.int .i64 o1, .int .i64 o2, .int .i64 o3], .bool true]) w') (first | exact HS.out _ ((Chg.refl NoB _).drew) | exact HS.out _ (((Chg.refl NoB _).drew).alloc _)) (fail)
    all_goals
      go_wp2
      go_region
      go_wp2
      all_goals
        refine wp_gen (fun W => Chg NoB w W ∧ ∃ a b : Int, a = min o2 x2 ∧ b = max o3 x3 ∧ W.heap[w.heap.size]? = some (.cells #[.int .i64 x1, .int .i64 a, .int .i64 b] 104 (0, 0))) ⟨((((Chg.refl NoB w).alloc _).alloc _).drew).drew, _, _, by omega, by omega, blk_alloc (blk_new w _) _⟩ ?_
        rintro W ⟨hcW, a, b, ha, hb, hbW⟩
        have d1 := hcW.cell c1 nob
        have d3 : W.cell? ⟨w.heap.size, 0, none⟩ = some (.int .i64 x1) := by rw [cell_blk hbW]; rfl
        have d4 : W.cell? ⟨w.heap.size, 1, none⟩ = some (.int .i64 a) := by rw [cell_blk hbW]; rfl
        have d5 : W.cell? ⟨w.heap.size, 2, none⟩ = some (.int .i64 b) := by rw [cell_blk hbW]; rfl
        have HA2 := hid ha
        have HB2 := hid hb
        clear ha hb
        (refine wp_region_tail 7 (by kernel_rfl) (by kernel_rfl) ?_; simp only [List.take_succ_cons, List.take_zero, List.drop_succ_cons, List.drop_zero]; (repeat still_step); refine wpStill_nil ?_; change wpList _ _ _ _ _ _)
        refine step_mapUpdate (HH.out.mt.chg hcW.drew nob) rfl _ _ _ 119 3 104 rfl Try.underlying119 Try.underlying3 x1 (x1, a, b) rfl rfl rfl ?_
        intro w2 hm2 hc2 hs2
        go_wp2
        go_end0
        have hcc : Chg (OneB rt) w w2 := ((hcW.mono fun i h => h.elim).drew).trans' hc2
        refine ⟨rfl, HH.out.putT ?_ hcc, hcc⟩
        unfold aTxn mrgT
        rw [HM.out]
        dsimp only
        rw [← HA2.out, ← HB2.out]
        exact hm2
end Go.Proofs.Ytghklbflbodajaa

namespace Go.Proofs.Ytghklbflbodajaa
open Go.RowKit Go.ChangeMaps Go.MapKept
set_option linter.unusedVariables false
set_option linter.unusedSimpArgs false
set_option linter.unnecessarySimpa false

/-- An entry's cells. -/
def entC (x : Ent) (v1 v2 : Value) : Array Value := #[.int .i64 x.at_, .int .i64 x.r.kind, .int .i64 x.r.txn, .int .i64 x.r.page, .int .i64 x.r.off, .int .i64 x.r.prev, .int .i64 x.r.next, .int .i64 x.r.beg, .string x.r.before, .string x.r.after, v1, v2]
theorem entC_cells {w : World} {b : Nat} {x : Ent} {v1 v2 : Value} {t : TypeId} (h : w.heap[b]? = some (.cells (entC x v1 v2) t (0, 0))) :
    w.cell? ⟨b, 0, none⟩ = some (.int .i64 x.at_) ∧ w.cell? ⟨b, 1, none⟩ = some (.int .i64 x.r.kind) ∧ w.cell? ⟨b, 2, none⟩ = some (.int .i64 x.r.txn) ∧ w.cell? ⟨b, 3, none⟩ = some (.int .i64 x.r.page) ∧ w.cell? ⟨b, 7, none⟩ = some (.int .i64 x.r.beg) ∧ w.cell? ⟨b, 10, none⟩ = some v1 ∧ w.cell? ⟨b, 11, none⟩ = some v2 := by
  refine ⟨?_, ?_, ?_, ?_, ?_, ?_, ?_⟩ <;> rw [cell_blk h] <;> rfl

/-- What stands while an entry goes by. -/
structure EnI (w W : World) (b p rt rp : Nat) (c : Int) (s : AT) (x : Ent) (v1 v2 : Value) : Prop where
  at_ : AnAt W p rt rp c s
  blk : W.heap[b]? = some (.cells (entC x v1 v2) 80 (0, 0))
  chg : Chg (AnB rt rp) w W
  lt : w.heap.size ≤ b
theorem EnI.ne {w W : World} {b p rt rp : Nat} {c : Int} {s : AT} {x : Ent} {v1 v2 : Value} (h : EnI w W b p rt rp c s x v1 v2) (hp : p < w.heap.size) (ht : rt < w.heap.size) (hr : rp < w.heap.size) : b ≠ p ∧ b ≠ rt ∧ b ≠ rp := by have := h.lt; omega
theorem EnI.keep {w W W' : World} {b p rt rp : Nat} {c : Int} {s : AT} {x : Ent} {v1 v2 : Value} (h : EnI w W b p rt rp c s x v1 v2) (hc : Chg NoB W W') : EnI w W' b p rt rp c s x v1 v2 :=
  ⟨h.at_.keep0 hc, hc.heap h.blk nob, h.chg.trans hc (fun _ e => e.elim), h.lt⟩

theorem EnI.set {w W W' : World} {b p rt rp g : Nat} {c : Int} {s : AT} {x : Ent} {v1 v2 : Value} (h : EnI w W b p rt rp c s x v1 v2) (hb : b = w.heap.size) (hg : w.heap.size < g) (hp : p < w.heap.size) (ht : rt < w.heap.size) (hr : rp < w.heap.size) (hc : Chg (OneB g) W W') : EnI w W' b p rt rp c s x v1 v2 :=
  ⟨h.at_.keep hc (fun e => by have h' : p = g := e; omega) (fun e => by have h' : rt = g := e; omega) (fun e => by have h' : rp = g := e; omega), hc.heap h.blk (fun e => by have h' : b = g := e; omega),
    h.chg.trans hc (fun i e => by have h' : i = g := e; right; omega), h.lt⟩
theorem rowO_cells {w : World} {b : Nat} {x : Row3} (h : w.heap[b]? = some (rowO x)) : w.cell? ⟨b, 0, none⟩ = some (.int .i64 x.1) ∧ w.cell? ⟨b, 1, none⟩ = some (.int .i64 x.2.1) ∧ w.cell? ⟨b, 2, none⟩ = some (.int .i64 x.2.2) ∧ (∀ i, w.frozen? ⟨b, i, none⟩ = false) := by
  unfold rowO at h
  refine ⟨?_, ?_, ?_, fun i => frozen_blk h i⟩ <;> rw [cell_blk h] <;> rfl

set_option maxRecDepth 100000 in
set_option maxHeartbeats 8000000 in
theorem entry_upd (p rt rp : Nat) (c : Int) (s : AT) (x : Ent) (v1 v2 : Value) (w : World) (h : AnAt w p rt rp c s) (hk : x.r.kind = 1 ∨ x.r.kind = 2) :
    Calls Try.prog 55 #[.pointer (some ⟨p, 0, none⟩), .agg (entC x v1 v2)] w fun e w' => e = .returned (.tuple #[]) ∧ AnAt w' p rt rp c (aEnt c s x) ∧ Chg (AnB rt rp) w w' := by
  have HE : Hid (aEnt c s x = ⟨mput s.T x.r.txn (aRow s.T x.r.txn x.at_), if (mget s.G x.r.page).isSome then s.G else mput s.G x.r.page x.at_⟩) := hid (by unfold aEnt; rw [if_pos hk])
  have HH := hid h
  have hpl := lt_of_block h.blk
  have htl := h.mt.lt
  have hrl := h.mp.lt
  clear h
  unfold entC
  go_enter Try.func55, Try.ntmps55
  have hW0 : Hid (EnI w (w.alloc (.cells (entC x v1 v2) 80)) w.heap.size p rt rp c s x v1 v2 ∧ Chg NoB w (w.alloc (.cells (entC x v1 v2) 80))) := hid ⟨⟨HH.out.keep0 ((Chg.refl NoB w).alloc _), blk_new _ _, ((Chg.refl _ w).alloc _), Nat.le_refl _⟩, (Chg.refl NoB w).alloc _⟩
  unfold entC at hW0
  have HK := hid hk
  clear hk
  go_upto_if 19 with fail
  go_cut [19] (fun s19 wx => s19 = .bool true ∧ Hid (EnI w wx w.heap.size p rt rp c s x v1 v2 ∧ Chg NoB w wx))
  case first =>
    rcases HK.out with hk | hk
    · have hb : (x.r.kind == 1) = true := by simp [hk]
      clear hk
      go_wp2_with fail
      go_meet
      exact ⟨congrArg Value.bool hb, hW0⟩
    · have hb : (x.r.kind == 1) = false := by simp [hk]
      have hb2 : (x.r.kind == 2) = true := by simp [hk]
      clear hk
      go_wp2_with fail
      go_meet
      exact ⟨by first | rfl | exact congrArg Value.bool hb2, hW0⟩
  case rest =>
    obtain ⟨rfl, hW⟩ := hcut
    clear hW0
    obtain ⟨k0, k1, k2, k3, _, _, _⟩ := entC_cells hW.out.1.blk
    obtain ⟨p0, p1, p2⟩ := hW.out.1.at_.cells
    go_upto_region 5 with fail
    go_cut [5] (fun s5 wx => ∃ g : Nat, s5 = .pointer (some ⟨g, 0, none⟩) ∧ Hid (EnI w wx w.heap.size p rt rp c s x v1 v2 ∧ Chg NoB w wx ∧ wx.heap[g]? = some (rowO (x.r.txn, x.at_, x.at_)) ∧ w.heap.size < g))
    case first =>
      go_region_held3 (fun w' => ∀ p, (World.cell? wc p).isSome = true → w'.cell? p = World.cell? wc p) (first | exact sameC ((Chg.refl NoB _).drew) | exact sameC (((Chg.refl NoB _).drew).alloc _) | exact sameC ((((Chg.refl NoB _).drew).alloc _).setCell (.inr (by simp)) _)) (fail)
      all_goals
        go_wp2_with fail
        go_meet
        refine ⟨_, rfl, ⟨hW.out.1.keep (((Chg.refl NoB _).drew).alloc _), hW.out.2.trans' (((Chg.refl NoB _).drew).alloc _), blk_new _ _, lt_of_block hW.out.1.blk⟩⟩
    case rest =>
      obtain ⟨g, rfl, hG⟩ := hcut
      clear k0 k1 k2 k3 p0 p1 p2 hW
      obtain ⟨k0, k1, k2, k3, _, _, _⟩ := entC_cells hG.out.1.blk
      obtain ⟨p0, p1, p2⟩ := hG.out.1.at_.cells
      obtain ⟨o, ho⟩ := named (mget s.T x.r.txn)
      obtain ⟨⟨o1, o2, o3⟩, hor⟩ := named (o.getD (0, 0, 0))
      obtain ⟨ok, hok⟩ := named o.isSome
      have HL := look_any (P := Try.prog) (V := VRow) Try.underlying119 Try.underlying3 hG.out.1.at_.mt zero_row x.r.txn true (res := .tuple #[.agg #[.int .i64 o1, .int .i64 o2, .int .i64 o3], .bool ok]) (by
        rw [← ho.out, hok.out]
        cases o with
        | none => rw [Option.getD_none] at hor; cases hor.out; rfl
        | some y => rw [Option.getD_some] at hor; cases hor.out; rfl)
      go_upto_region 6 with fail
      go_cut [6, 7] (fun s6 s7 wx => ∃ h : Nat, s6 = .pointer (some ⟨h, 0, none⟩) ∧ s7 = .bool ok ∧ Hid (EnI w wx w.heap.size p rt rp c s x v1 v2 ∧ Chg NoB w wx ∧ wx.heap[g]? = some (rowO (x.r.txn, x.at_, x.at_)) ∧ wx.heap[h]? = some (rowO (o1, o2, o3)) ∧ w.heap.size < g))
      case first =>
        go_region_held3 (fun w' => (∀ p, (World.cell? wc p).isSome = true → w'.cell? p = World.cell? wc p) ∧ (Instr.lookup 119 (.map (some rt)) (.int .i64 x.r.txn) true).run Try.prog w' = .ok (.tuple #[.agg #[.int .i64 o1, .int .i64 o2, .int .i64 o3], .bool ok]) w') (first | exact keepX HL ((Chg.refl NoB _).drew) | exact keepX HL (((Chg.refl NoB _).drew).alloc _) | exact keepX HL ((((Chg.refl NoB _).drew).alloc _).setCell (.inr (by simp)) _)) (fail)
        all_goals
          go_wp2_with fail
          go_meet
          have hcc : Chg NoB wc (wc.drew.alloc (.cells #[.int .i64 o1, .int .i64 o2, .int .i64 o3] 104)) := ((Chg.refl NoB _).drew).alloc _
          exact ⟨_, rfl, rfl, ⟨hG.out.1.keep hcc, hG.out.2.1.trans' hcc, hcc.heap hG.out.2.2.1 nob, blk_new _ _, hG.out.2.2.2⟩⟩
      case rest =>
        obtain ⟨h, rfl, rfl, hH⟩ := hcut
        clear k0 k1 k2 k3 p0 p1 p2 HL hG
        go_upto_if 43 with fail
        go_cut [] (fun wx => Hid (EnI w wx w.heap.size p rt rp c s x v1 v2 ∧ Chg NoB w wx ∧ wx.heap[g]? = some (rowO (aRow s.T x.r.txn x.at_)) ∧ w.heap.size < g))
        case first =>
          have hgl := hH.out.2.2.2.2
          obtain ⟨d0, d1, d2, df⟩ := rowO_cells hH.out.2.2.1
          obtain ⟨e0, e1, e2, ef⟩ := rowO_cells hH.out.2.2.2.1
          have df1 := df 1
          clear df ef d0 d2 e0 e2
          cases ok
          · have hn : o = none := by cases o with | none => rfl | some y => cases hok.out
            have hrow : aRow s.T x.r.txn x.at_ = (x.r.txn, x.at_, x.at_) := by unfold aRow; rw [← ho.out, hn]
            have HR := hid hrow
            clear hn hrow
            go_wp2_with fail
            go_meet
            exact ⟨hH.out.1, hH.out.2.1, by rw [HR.out]; exact hH.out.2.2.1, hgl⟩
          · have hrow : aRow s.T x.r.txn x.at_ = (x.r.txn, o2, x.at_) := by
              unfold aRow; rw [← ho.out]
              cases o with
              | none => cases hok.out
              | some y => rw [Option.getD_some] at hor; cases hor.out; rfl
            have HR := hid hrow
            clear hrow
            go_wp2_with fail
            go_meet
            have hcc : Chg (OneB g) wc (wc.setCell ⟨g, 1, none⟩ (.int .i64 o2)) := (Chg.refl (OneB g) wc).setCell (.inl (OneB.self g)) _
            exact ⟨hH.out.1.set rfl hgl hpl htl hrl hcc, hH.out.2.1.setCell (.inr (by simp; omega)) _, by rw [HR.out]; exact blk_setCell hH.out.2.2.1 1 _, hgl⟩
        case rest =>
          replace hH := hcut
          clear hcut ho hor hok
          obtain ⟨k0, k1, k2, k3, _, _, _⟩ := entC_cells hH.out.1.blk
          obtain ⟨p0, p1, p2⟩ := hH.out.1.at_.cells
          obtain ⟨d0, d1, d2, df⟩ := rowO_cells hH.out.2.2.1
          obtain ⟨row, hrow⟩ := named (aRow s.T x.r.txn x.at_)
          obtain ⟨r1, r2, r3⟩ := row
          rw [← hrow.out] at d0 d1 d2
          clear df
          go_upto_region 9 with fail
          (refine wp_region_tail 9 (by kernel_rfl) (by kernel_rfl) ?_; simp only [List.take_succ_cons, List.take_zero, List.drop_succ_cons, List.drop_zero]; (repeat still_step); refine wpStill_nil ?_; change wpList _ _ _ _ _ _)
          refine step_mapUpdate (hH.out.1.at_.mt.drew) rfl _ _ _ 119 3 104 rfl Try.underlying119 Try.underlying3 x.r.txn (r1, r2, r3) rfl rfl rfl ?_
          intro w2 hm2 hc2 hs2
          have hW2 : Hid (EnI w w2 w.heap.size p rt rp c ⟨mput s.T x.r.txn (aRow s.T x.r.txn x.at_), s.G⟩ x v1 v2) := by
            have hc3 : Chg (OneB rt) wc w2 := ((Chg.refl (OneB rt) wc).drew).trans' hc2
            exact ⟨hH.out.1.at_.putT (by rw [← hrow.out]; exact hm2) hc3, hc3.heap hH.out.1.blk (fun e => by have h' : w.heap.size = rt := e; omega), hH.out.1.chg.trans hc3 (fun i e => .inl (.inl e)), Nat.le_refl _⟩
          clear hm2 hc2 k0 k1 k2 k3 p0 p1 p2 d0 d1 d2
          obtain ⟨k0, k1, k2, k3, _, _, _⟩ := entC_cells hW2.out.blk
          obtain ⟨p0, p1, p2⟩ := hW2.out.at_.cells
          go_upto_region 10 with fail
          obtain ⟨q, hq⟩ := named (mget s.G x.r.page)
          have HL := (look_any (P := Try.prog) (V := Value.int .i64) Try.underlying120 Try.underlying3 hW2.out.at_.mp zero_int x.r.page true rfl).out w2.drew ((Chg.refl NoB w2).drew)
          simp only [if_true] at HL
          rw [← hq.out] at HL
          cases q with
          | none =>
            simp only [Option.map_none, Option.getD_none, Option.isSome_none] at HL
            (refine wp_region_reads (by kernel_rfl) (by kernel_rfl) ?_; (repeat still_step); refine wpStill_nil ?_)
            clear HL
            go_upto_region 12 with fail
            (refine wp_region_tail 10 (by kernel_rfl) (by kernel_rfl) ?_; simp only [List.take_succ_cons, List.take_zero, List.drop_succ_cons, List.drop_zero]; (repeat still_step); refine wpStill_nil ?_; change wpList _ _ _ _ _ _)
            refine step_mapUpdate (hW2.out.at_.mp.drew.drew) rfl _ _ _ 120 3 3 rfl Try.underlying120 Try.underlying3 x.r.page x.at_ rfl rfl rfl ?_
            intro w3 hm3 hc3 hs3
            go_wp2_with fail
            go_end0
            have hc4 : Chg (OneB rp) w2 w3 := (((Chg.refl (OneB rp) w2).drew).drew).trans' hc3
            refine ⟨rfl, ?_, hW2.out.chg.trans hc4 (fun i e => .inl (.inr e))⟩
            rw [HE.out, ← hq.out]
            exact hW2.out.at_.putG hm3 hc4
          | some y =>
            simp only [Option.map_some, Option.getD_some, Option.isSome_some] at HL
            (refine wp_region_reads (by kernel_rfl) (by kernel_rfl) ?_; (repeat still_step); refine wpStill_nil ?_)
            clear HL
            go_wp2_with fail
            go_end0
            refine ⟨rfl, ?_, hW2.out.chg.drew⟩
            rw [HE.out, ← hq.out]
            exact hW2.out.at_.keep0 ((Chg.refl NoB w2).drew)
end Go.Proofs.Ytghklbflbodajaa

namespace Go.Proofs.Ytghklbflbodajaa
open Go.RowKit Go.ChangeMaps Go.MapKept
set_option linter.unusedVariables false
set_option linter.unusedSimpArgs false
set_option linter.unnecessarySimpa false

set_option maxRecDepth 100000 in
set_option maxHeartbeats 8000000 in
theorem entry_end (p rt rp : Nat) (c : Int) (s : AT) (x : Ent) (v1 v2 : Value) (w : World) (h : AnAt w p rt rp c s) (hk : x.r.kind = 3 ∨ x.r.kind = 4) :
    Calls Try.prog 55 #[.pointer (some ⟨p, 0, none⟩), .agg (entC x v1 v2)] w fun e w' => e = .returned (.tuple #[]) ∧ AnAt w' p rt rp c (aEnt c s x) ∧ Chg (AnB rt rp) w w' := by
  have HE : Hid (aEnt c s x = ⟨mdel s.T x.r.txn, s.G⟩) := hid (by unfold aEnt; rw [if_neg (by omega), if_pos hk])
  have HH := hid h
  have hpl := lt_of_block h.blk
  have htl := h.mt.lt
  have hrl := h.mp.lt
  clear h
  have hW0 : Hid (EnI w (w.alloc (.cells (entC x v1 v2) 80)) w.heap.size p rt rp c s x v1 v2 ∧ Chg NoB w (w.alloc (.cells (entC x v1 v2) 80))) := hid ⟨⟨HH.out.keep0 ((Chg.refl NoB w).alloc _), blk_new _ _, ((Chg.refl _ w).alloc _), Nat.le_refl _⟩, (Chg.refl NoB w).alloc _⟩
  unfold entC at hW0 ⊢
  have hb1 : (x.r.kind == 1) = false := by rcases hk with hk | hk <;> simp [hk]
  have hb2 : (x.r.kind == 2) = false := by rcases hk with hk | hk <;> simp [hk]
  have HK := hid hk
  clear hk
  go_enter Try.func55, Try.ntmps55
  go_upto_if 80 with fail
  go_cut [80] (fun s80 wx => s80 = .bool true ∧ Hid (EnI w wx w.heap.size p rt rp c s x v1 v2 ∧ Chg NoB w wx))
  case first =>
    rcases HK.out with hk | hk
    · have hb : (x.r.kind == 3) = true := by simp [hk]
      clear hk
      go_wp2_with fail
      go_meet
      exact ⟨congrArg Value.bool hb, hW0⟩
    · have hb : (x.r.kind == 3) = false := by simp [hk]
      have hb2 : (x.r.kind == 4) = true := by simp [hk]
      clear hk
      go_wp2_with fail
      go_meet
      exact ⟨by first | rfl | exact congrArg Value.bool hb2, hW0⟩
  case rest =>
    obtain ⟨rfl, hW⟩ := hcut
    clear hW0
    obtain ⟨k0, k1, k2, k3, _, _, _⟩ := entC_cells hW.out.1.blk
    obtain ⟨p0, p1, p2⟩ := hW.out.1.at_.cells
    go_upto_region 15 with fail
    (refine wp_region_tail 8 (by kernel_rfl) (by kernel_rfl) ?_; simp only [List.take_succ_cons, List.take_zero, List.drop_succ_cons, List.drop_zero]; (repeat still_step); refine wpStill_nil ?_; change wpList _ _ _ _ _ _)
    refine step_delete hW.out.1.at_.mt.drew rfl _ _ 119 3 104 rfl Try.underlying119 Try.underlying3 x.r.txn rfl rfl ?_
    intro w2 hm2 hc2 hs2
    go_wp2_with fail
    go_end0
    have hc3 : Chg (OneB rt) wc w2 := ((Chg.refl (OneB rt) wc).drew).trans' hc2
    exact ⟨rfl, by rw [HE.out]; exact hW.out.1.at_.putT hm2 hc3, hW.out.1.chg.trans hc3 (fun i e => .inl (.inl e))⟩

/-- A slice that is read is no map. -/
theorem Rd.maps {α : Type} {w w' : World} {size : Nat} {enc : α → List Value} {v : Value} {l : List α} {S : Nat → Prop} (h : Rd w size enc v l) (hc : Chg S w w') (hs : ∀ k, S k → ∃ es c, w.heap[k]? = some (.map es c)) : Rd w' size enc v l := by
  obtain ⟨a, c, hv, h1, h2, h3⟩ := h
  refine ⟨a, c, hv, h1, h2, fun i x hi => ?_⟩
  obtain ⟨b, off, ha, h4⟩ := h3 i x hi
  refine ⟨b, off, ha, fun j u hu => ?_⟩
  have h5 := h4 j u hu
  refine hc.cell h5 (fun e => ?_)
  obtain ⟨es, c, he⟩ := hs _ e
  have he' : w.heap[b]? = some (.map es c) := he
  simp [World.cell?, he'] at h5
theorem AnAt.maps {w : World} {p rt rp : Nat} {c : Int} {s : AT} (h : AnAt w p rt rp c s) : ∀ k, AnB rt rp k → ∃ es c, w.heap[k]? = some (.map es c) := by
  rintro k (rfl | rfl)
  · obtain ⟨es, c, h1, _⟩ := h.mt; exact ⟨es, c, h1⟩
  · obtain ⟨es, c, h1, _⟩ := h.mp; exact ⟨es, c, h1⟩
theorem Tabs.maps {w w' : World} {r : Rec} {v1 v2 : Value} {S : Nat → Prop} (h : Tabs w r v1 v2) (hc : Chg S w w') (hs : ∀ k, S k → ∃ es c, w.heap[k]? = some (.map es c)) : Tabs w' r v1 v2 := ⟨h.1.maps hc hs, h.2.maps hc hs⟩
theorem row3_at {w : World} {a : Option Addr} {l : List Row3} {c : Nat} (h : Rd w 3 encTx (.slice a l.length c) l) (k : Nat) (hk : k < l.length) :
    ∃ x y z b off, Hid (l[k] = (x, y, z)) ∧ a = some ⟨b, off, none⟩ ∧ w.cell? ⟨b, off + k * 3, none⟩ = some (.int .i64 x) ∧ w.cell? ⟨b, off + k * 3 + 1, none⟩ = some (.int .i64 y) ∧ w.cell? ⟨b, off + k * 3 + 2, none⟩ = some (.int .i64 z) := by
  obtain ⟨a', c', e, h1, h2, h3⟩ := h
  cases e
  obtain ⟨b, off, ha, h4⟩ := h3 k _ (List.getElem?_eq_getElem hk)
  exact ⟨_, _, _, b, off, rfl, ha, h4 0 _ rfl, h4 1 _ rfl, h4 2 _ rfl⟩
theorem row2_at {w : World} {a : Option Addr} {l : List (Int × Int)} {c : Nat} (h : Rd w 2 encPg (.slice a l.length c) l) (k : Nat) (hk : k < l.length) :
    ∃ x y b off, Hid (l[k] = (x, y)) ∧ a = some ⟨b, off, none⟩ ∧ w.cell? ⟨b, off + k * 2, none⟩ = some (.int .i64 x) ∧ w.cell? ⟨b, off + k * 2 + 1, none⟩ = some (.int .i64 y) := by
  obtain ⟨a', c', e, h1, h2, h3⟩ := h
  cases e
  obtain ⟨b, off, ha, h4⟩ := h3 k _ (List.getElem?_eq_getElem hk)
  exact ⟨_, _, b, off, rfl, ha, h4 0 _ rfl, h4 1 _ rfl⟩
theorem foldl_take {α β : Type} (f : β → α → β) (l : List α) (s : β) {k : Nat} (hk : k < l.length) {x : α} (hx : l[k] = x) : (l.take (k + 1)).foldl f s = f ((l.take k).foldl f s) x := by
  rw [List.take_succ_eq_append_getElem hk, List.foldl_append, hx]; rfl

def noKind (x : Ent) : Prop := x.r.kind ≠ 1 ∧ x.r.kind ≠ 2 ∧ x.r.kind ≠ 3 ∧ x.r.kind ≠ 4
set_option maxRecDepth 100000 in
set_option maxHeartbeats 8000000 in
theorem entry_tab (p rt rp : Nat) (c : Int) (s : AT) (x : Ent) (v1 v2 : Value) (w : World) (h : AnAt w p rt rp c s) (hk : noKind x) (ht : Tabs w x.r v1 v2) :
    Calls Try.prog 55 #[.pointer (some ⟨p, 0, none⟩), .agg (entC x v1 v2)] w fun e w' => e = .returned (.tuple #[]) ∧ AnAt w' p rt rp c (aEnt c s x) ∧ Chg (AnB rt rp) w w' := by
  have HH := hid h
  have hpl := lt_of_block h.blk
  have htl := h.mt.lt
  have hrl := h.mp.lt
  clear h
  have hW0 : Hid (EnI w (w.alloc (.cells (entC x v1 v2) 80)) w.heap.size p rt rp c s x v1 v2 ∧ Chg NoB w (w.alloc (.cells (entC x v1 v2) 80))) := hid ⟨⟨HH.out.keep0 ((Chg.refl NoB w).alloc _), blk_new _ _, ((Chg.refl _ w).alloc _), Nat.le_refl _⟩, (Chg.refl NoB w).alloc _⟩
  unfold entC at hW0 ⊢
  have hb1 : (x.r.kind == 1) = false := by simp [hk.1]
  have hb2 : (x.r.kind == 2) = false := by simp [hk.2.1]
  have hb3 : (x.r.kind == 3) = false := by simp [hk.2.2.1]
  have hb4 : (x.r.kind == 4) = false := by simp [hk.2.2.2]
  have HK := hid hk
  obtain ⟨a1, n1, ev1, q1, q2, _⟩ := id ht.1
  obtain ⟨a2, n2, ev2, q3, q4, _⟩ := id ht.2
  subst ev1 ev2
  unfold maxLen at q2 q4
  have HT := hid ht
  clear hk ht
  have HE0 : Hid (aEnt c s x = if x.r.kind = 6 then (if x.r.beg = c then ⟨x.r.txns.foldl aTxn s.T, x.r.pages.foldl aPage s.G⟩ else s) else s) := hid (by
    unfold aEnt
    have := HK.out
    rw [if_neg (by rintro (e | e); exact this.1 e; exact this.2.1 e), if_neg (by rintro (e | e); exact this.2.2.1 e; exact this.2.2.2 e)])
  by_cases h6 : x.r.kind = 6
  · have HE1 : Hid (aEnt c s x = (if x.r.beg = c then ⟨x.r.txns.foldl aTxn s.T, x.r.pages.foldl aPage s.G⟩ else s)) := hid (by rw [HE0.out, if_pos h6])
    have hb6 : (x.r.kind == 6) = true := by simp [h6]
    clear h6
    cases hbc : (x.r.beg != c) with
    | true =>
      have hbc2 : x.r.beg ≠ c := by simpa using hbc
      have HE2 : Hid (aEnt c s x = s) := hid (by rw [HE1.out, if_neg hbc2])
      clear hbc2
      go_enter Try.func55, Try.ntmps55
      go_upto_region 17 with fail
      obtain ⟨W, hWW⟩ := named (w.alloc (.cells (entC x (.slice a1 x.r.txns.length n1) (.slice a2 x.r.pages.length n2)) 80))
      unfold entC at hWW
      rw [← hWW.out] at hW0 ⊢
      obtain ⟨k0, k1, k2, k3, k7, k10, k11⟩ := entC_cells hW0.out.1.blk
      obtain ⟨p0, p1, p2⟩ := hW0.out.1.at_.cells
      (refine wp_region_reads (by kernel_rfl) (by kernel_rfl) ?_; (repeat still_step); refine wpStill_nil ?_)
      go_wp2_with fail
      refine bodyPost_ret (results_none rfl _ _ _) rfl ?_
      exact ⟨rfl, by rw [HE2.out]; exact hW0.out.1.at_.keep0 ((Chg.refl NoB _).drew), hW0.out.1.chg.drew⟩
    | false =>
      have hbc2 : x.r.beg = c := by simpa using hbc
      have HE2 : Hid (aEnt c s x = ⟨x.r.txns.foldl aTxn s.T, x.r.pages.foldl aPage s.G⟩) := hid (by rw [HE1.out, if_pos hbc2])
      clear hbc2
      go_enter Try.func55, Try.ntmps55
      go_upto_region 17 with fail
      obtain ⟨W, hWW⟩ := named (w.alloc (.cells (entC x (.slice a1 x.r.txns.length n1) (.slice a2 x.r.pages.length n2)) 80))
      unfold entC at hWW
      rw [← hWW.out] at hW0 ⊢
      obtain ⟨k0, k1, k2, k3, k7, k10, k11⟩ := entC_cells hW0.out.1.blk
      obtain ⟨p0, p1, p2⟩ := hW0.out.1.at_.cells
      (refine wp_region_reads (by kernel_rfl) (by kernel_rfl) ?_; (repeat still_step); refine wpStill_nil ?_)
      go_wp2_with fail
      have hW1 := hid (hW0.out.1.keep ((Chg.refl NoB W).drew))
      clear k0 k1 k2 k3 k7 k10 k11 p0 p1 p2
      go_loopw [107] (fun i wr => ∃ k : Nat, k ≤ x.r.txns.length ∧ i = .int .i64 k ∧ Hid (EnI w wr w.heap.size p rt rp c ⟨(x.r.txns.take k).foldl aTxn s.T, s.G⟩ x (.slice a1 x.r.txns.length n1) (.slice a2 x.r.pages.length n2))) (fun i _ => x.r.txns.length - (intOf i).toNat)
      case atStart => exact ⟨0, by omega, rfl, hW1⟩
      case round =>
        obtain ⟨k, hk, rfl, hI⟩ := hrel
        have hT := HT.out.maps hI.out.chg HH.out.maps
        by_cases hlt : k < x.r.txns.length
        · obtain ⟨y1, y2, y3, b1, o1, hy, rfl, g0, g1, g2⟩ := row3_at hT.1 k hlt
          have HF := hid (foldl_take aTxn x.r.txns s.T hlt hy.out)
          clear hT
          go_wp2_with (go_at_call 66; refine (txn_calls p rt rp c _ (y1, y2, y3) _ (hI.out.at_.keep0 ((Chg.refl NoB wr).alloc _))).mono ?_; rintro e w2 ⟨rfl, ha2, hc2⟩)
          go_roundw
          case rel =>
            refine ⟨k + 1, by omega, by go_num, ?_⟩
            rw [HF.out]
            have hcc : Chg (OneB rt) wr w2 := ((Chg.refl (OneB rt) wr).alloc _).trans' hc2
            exact ⟨ha2, hcc.heap hI.out.blk (fun e => by have h' : w.heap.size = rt := e; omega), hI.out.chg.trans hcc (fun i e => .inl (.inl e)), Nat.le_refl _⟩
          case measure => simp [intOf]; omega
        · obtain rfl : x.r.txns.length = k := by omega
          rw [List.take_length] at hI
          clear hT
          obtain ⟨k0, k1, k2, k3, k7, k10, k11⟩ := entC_cells hI.out.blk
          go_wp2_with fail
          go_loopw [120] (fun i wr => ∃ k : Nat, k ≤ x.r.pages.length ∧ i = .int .i64 k ∧ Hid (EnI w wr w.heap.size p rt rp c ⟨x.r.txns.foldl aTxn s.T, (x.r.pages.take k).foldl aPage s.G⟩ x (.slice a1 x.r.txns.length n1) (.slice a2 x.r.pages.length n2))) (fun i _ => x.r.pages.length - (intOf i).toNat)
          case atStart => exact ⟨0, by omega, rfl, hI⟩
          case round =>
            obtain ⟨k, hk, rfl, hI⟩ := hrel
            have hT := HT.out.maps hI.out.chg HH.out.maps
            by_cases hlt : k < x.r.pages.length
            · obtain ⟨y1, y2, b1, o1, hy, rfl, g0, g1⟩ := row2_at hT.2 k hlt
              have HF := hid (foldl_take aPage x.r.pages s.G hlt hy.out)
              clear hT
              go_wp2_with (go_at_call 67; refine (page_calls p rt rp c _ y1 y2 _ (hI.out.at_.keep0 ((Chg.refl NoB wr).alloc _))).mono ?_; rintro e w2 ⟨rfl, ha2, hc2⟩)
              go_roundw
              case rel =>
                refine ⟨k + 1, by omega, by go_num, ?_⟩
                rw [HF.out]
                have hcc : Chg (OneB rp) wr w2 := ((Chg.refl (OneB rp) wr).alloc _).trans' hc2
                exact ⟨ha2, hcc.heap hI.out.blk (fun e => by have h' : w.heap.size = rp := e; omega), hI.out.chg.trans hcc (fun i e => .inl (.inr e)), Nat.le_refl _⟩
              case measure => simp [intOf]; omega
            · obtain rfl : x.r.pages.length = k := by omega
              rw [List.take_length] at hI
              clear hT
              go_wp2_with fail
              go_end0
              exact ⟨rfl, by rw [HE2.out]; exact hI.out.at_, hI.out.chg⟩
  · have HE1 : Hid (aEnt c s x = s) := hid (by rw [HE0.out, if_neg h6])
    have hb6 : (x.r.kind == 6) = false := by simp [h6]
    clear h6
    go_enter Try.func55, Try.ntmps55
    go_wp2_with fail
    go_end0
    exact ⟨rfl, by rw [HE1.out]; exact hW0.out.1.at_, hW0.out.1.chg⟩

/-- entry, whatever goes by. -/
theorem entry_calls (p rt rp : Nat) (c : Int) (s : AT) (x : Ent) (v1 v2 : Value) (w : World) (h : AnAt w p rt rp c s) (ht : Tabs w x.r v1 v2) :
    Calls Try.prog 55 #[.pointer (some ⟨p, 0, none⟩), .agg (entC x v1 v2)] w fun e w' => e = .returned (.tuple #[]) ∧ AnAt w' p rt rp c (aEnt c s x) ∧ Chg (AnB rt rp) w w' := by
  by_cases h1 : x.r.kind = 1 ∨ x.r.kind = 2
  · exact entry_upd p rt rp c s x v1 v2 w h h1
  · by_cases h2 : x.r.kind = 3 ∨ x.r.kind = 4
    · exact entry_end p rt rp c s x v1 v2 w h h2
    · exact entry_tab p rt rp c s x v1 v2 w h ⟨fun e => h1 (.inl e), fun e => h1 (.inr e), fun e => h2 (.inl e), fun e => h2 (.inr e)⟩ ht
end Go.Proofs.Ytghklbflbodajaa

namespace Go.Proofs.Ytghklbflbodajaa
open Go.RowKit Go.ChangeMaps Go.MapKept
set_option linter.unusedVariables false
set_option linter.unusedSimpArgs false
set_option linter.unnecessarySimpa false

set_option maxRecDepth 100000 in
theorem may1_calls (x : Ent) (v1 v2 : Value) (cb : Nat) (c : Int) (w : World) (h : w.cell? ⟨cb, 0, none⟩ = some (.int .i64 c)) (r : Bool) (hr : Hid (r = isBegin c x)) :
    Calls Try.prog 65 #[.agg (entC x v1 v2), .pointer (some ⟨cb, 0, none⟩)] w fun e w' => e = .returned (.bool r) ∧ Chg NoB w w' := by
  have hn : cb < w.heap.size := World.block_lt_of_cell? w _ h
  have h2 := ((Chg.refl NoB w).alloc (.cells (entC x v1 v2) 80)).cell h nob
  unfold entC at h2 ⊢
  cases ha : (x.at_ == c)
  · have hr2 : r = false := by rw [hr.out]; unfold isBegin; rw [ha]; rfl
    subst hr2
    clear hr
    go_enter Try.func65, Try.ntmps65
    go_wp2
    go_ret
    exact ⟨rfl, (Chg.refl NoB w).alloc _⟩
  · have hr2 : r = (x.r.kind == 5) := by rw [hr.out]; unfold isBegin; rw [ha]; rfl
    subst hr2
    clear hr
    go_enter Try.func65, Try.ntmps65
    go_wp2
    go_ret
    exact ⟨rfl, (Chg.refl NoB w).alloc _⟩

set_option maxRecDepth 100000 in
set_option maxHeartbeats 4000000 in
theorem idx_calls (v : Value) (l : List Ent) (cb : Nat) (c : Int) (w : World) (hv : Ents w v l) (h : w.cell? ⟨cb, 0, none⟩ = some (.int .i64 c)) :
    Calls Try.prog 77 #[v, .func (.func 65) #[] #[.pointer (some ⟨cb, 0, none⟩)]] w fun e w' => ∃ i : Int, e = .returned (.int .i64 i) ∧ decide (0 ≤ i) = l.any (isBegin c) ∧ Chg NoB w w' := by
  obtain ⟨a, n, rfl, h1, h2, h3⟩ := hv
  unfold maxLen at h2
  have HR := hid h3
  clear h3
  go_enter Try.func77, Try.ntmps77
  go_wp2
  go_loopw [8] (fun i wr => ∃ k : Nat, k ≤ l.length ∧ i = .int .i64 k ∧ Hid (∀ j (hj : j < k) (h : j < l.length), isBegin c l[j] = false) ∧ Chg NoB w wr) (fun i _ => l.length - (intOf i).toNat)
  case atStart => exact ⟨0, by omega, rfl, hid (fun j h => by omega), Chg.refl _ _⟩
  case round =>
    obtain ⟨k, hk, rfl, HE, hc⟩ := hrel
    by_cases hlt : k < l.length
    · obtain ⟨x, b, off, v1, v2, hx, rfl, ht, _, g0, g1, g2, g3, g4, g5, g6, g7, g8, g9, g10, g11⟩ := Ents.cells HR.out hc k hlt
      obtain ⟨r, hr⟩ := named (isBegin c x)
      have HC := hid (hc.cell h nob)
      cases r
      · go_wp2_with (go_at_call 65; refine (may1_calls x v1 v2 cb c _ HC.out false hr).mono ?_; rintro e w' ⟨rfl, hc'⟩)
        go_roundw
        case rel =>
          refine ⟨k + 1, by omega, by go_num, hid (fun j hj h => ?_), hc.trans' hc'⟩
          by_cases hjk : j < k
          · exact HE.out j hjk h
          · obtain rfl : j = k := by omega
            rw [hx.out, ← hr.out]
        case measure => simp [intOf]; omega
      · have hany : l.any (isBegin c) = true := List.any_eq_true.2 ⟨l[k], List.getElem_mem hlt, by rw [hx.out, ← hr.out]⟩
        have HA := hid hany
        clear hany
        go_wp2_with (go_at_call 65; refine (may1_calls x v1 v2 cb c _ HC.out true hr).mono ?_; rintro e w' ⟨rfl, hc'⟩)
        go_ret
        exact ⟨_, rfl, by rw [HA.out]; simp, hc.trans' hc'⟩
    · obtain rfl : k = l.length := by omega
      have hany : l.any (isBegin c) = false := by
        rw [List.any_eq_false]
        intro x hx
        obtain ⟨i, hi, rfl⟩ := List.getElem_of_mem hx
        rw [HE.out i hi hi]; simp
      have HA := hid hany
      clear hany
      go_wp2
      go_ret
      exact ⟨_, rfl, by rw [HA.out]; rfl, hc⟩

set_option maxRecDepth 100000 in
theorem contains_calls (v : Value) (l : List Ent) (cb : Nat) (c : Int) (w : World) (hv : Ents w v l) (h : w.cell? ⟨cb, 0, none⟩ = some (.int .i64 c)) (r : Bool) (hr : Hid (r = l.any (isBegin c))) :
    Calls Try.prog 64 #[v, .func (.func 65) #[] #[.pointer (some ⟨cb, 0, none⟩)]] w fun e w' => e = .returned (.bool r) ∧ Chg NoB w w' := by
  have HV := hid hv
  have HC := hid h
  clear hv h
  go_enter Try.func64, Try.ntmps64
  go_wp2_with (go_at_call 77; refine (idx_calls v l cb c w HV.out HC.out).mono ?_; rintro e w1 ⟨i, rfl, hi, hc⟩; replace hi := hid hi)
  go_ret
  exact ⟨ret_bool (by rw [hr.out, ← hi.out]), hc⟩

set_option maxRecDepth 100000 in
set_option maxHeartbeats 4000000 in
theorem may_calls (v : Value) (l : List Ent) (c : Int) (w : World) (hv : Ents w v l) (er : Int) (her : Hid (er = aErr l c)) :
    Calls Try.prog 54 #[v, .int .i64 c] w fun e w' => e = .returned (.int .i64 er) ∧ Chg NoB w w' := by
  have HV := hid hv
  obtain ⟨a, n, rfl, h1, h2, h3⟩ := hv
  unfold maxLen at h2
  have HR := hid h3
  clear h3
  go_enter Try.func54, Try.ntmps54
  go_wp2
  go_loopw [8] (fun i wr => ∃ k : Nat, k ≤ l.length ∧ i = .int .i64 k ∧ Hid (∀ j (hj : j + 1 < k) (h : j + 1 < l.length), l[j].at_ < l[j + 1].at_) ∧ Hid (Chg NoB (w.alloc (.cells #[.int .i64 c] 3)) wr)) (fun i _ => l.length - (intOf i).toNat)
  case atStart => exact ⟨0, by omega, rfl, hid (fun j h => by omega), Chg.refl _ _⟩
  case round =>
    obtain ⟨k, hk, rfl, HE, hc⟩ := hrel
    have hcw := ((Chg.refl NoB w).alloc (.cells #[.int .i64 c] 3)).trans' hc.out
    by_cases hlt : k < l.length
    · obtain ⟨y, b, off, v1, v2, hy, ey, _, _, g0, _⟩ := Ents.cells HR.out hcw k hlt
      by_cases hk0 : k = 0
      · subst hk0
        have hd : decide ((0 : Int) < ((0 : Nat) : Int)) = false := by decide
        clear hcw g0
        go_wp2
        go_quiet (fail)
        go_wp2
        go_roundw
        case rel => exact ⟨1, by omega, by go_num, hid (fun j h => by omega), hc.out.drewN _⟩
        case measure => simp [intOf]; omega
      · obtain ⟨j, rfl⟩ : ∃ j, k = j + 1 := ⟨k - 1, by omega⟩
        obtain ⟨x, b', off', v1', v2', hx, ex, _, _, g0', _⟩ := Ents.cells HR.out hcw j (by omega)
        rw [ey] at ex
        cases ex
        subst ey
        clear hcw
        have hd : decide ((0 : Int) < ((j + 1 : Nat) : Int)) = true := decide_eq_true (by omega)
        have hw : IntKind.i64.wrap (j : Int) = (j : Int) := by rw [IntKind.wrap_i64]; omega
        by_cases hxy : y.at_ ≤ x.at_
        · have hr3 : aErr l c = 3 := by
            unfold aErr
            rw [if_neg]
            intro hri
            have := risesB_iff.1 hri j hlt
            rw [hx.out, hy.out] at this
            omega
          have HER := hid (her.out.trans hr3)
          clear hr3
          go_wp2
          go_quiet (fail)
          go_wp2
          go_ret
          exact ⟨ret_int HER.out.symm, (((Chg.refl NoB w).alloc _).trans' hc.out).drewN _⟩
        · go_wp2
          go_quiet (fail)
          go_wp2
          go_roundw
          case rel =>
            refine ⟨j + 2, by omega, by go_num, hid (fun i hi h => ?_), hc.out.drewN _⟩
            by_cases hij : i < j
            · exact HE.out i (by omega) h
            · obtain rfl : i = j := by omega
              rw [hx.out, hy.out]; omega
          case measure => simp [intOf]; omega
    · obtain rfl : l.length = k := by omega
      have hri : risesB l = true := risesB_iff.2 (fun i hi => HE.out i hi hi)
      have hcb : wr.cell? ⟨w.heap.size, 0, none⟩ = some (.int .i64 c) := hc.out.cell (by rw [cell_blk (blk_new _ _)]; rfl) nob
      have hE : Hid (er = if c ≠ 0 ∧ l.any (isBegin c) = false then 7 else 0) := hid (by rw [her.out]; unfold aErr; rw [if_pos hri])
      obtain ⟨r, hr⟩ := named (l.any (isBegin c))
      have HVR := hid (HV.out.mono hcw)
      have HCW := hid hcw
      clear hri hcw
      cases hc0 : (c != 0)
      · have h0 : c = 0 := by simpa using hc0
        have HER : Hid (er = 0) := hid (by rw [hE.out, if_neg (by simp [h0])])
        clear h0
        go_wp2
        go_ret
        exact ⟨ret_int HER.out.symm, HCW.out⟩
      · have h0 : c ≠ 0 := by simpa using hc0
        have HCB := hid hcb
        cases r
        · have HER : Hid (er = 7) := hid (by rw [hE.out, if_pos ⟨h0, hr.out.symm⟩])
          clear h0
          go_wp2_with (go_at_call 64; refine (contains_calls _ l _ c _ HVR.out HCB.out false hr).mono ?_; rintro e w2 ⟨rfl, hc2⟩)
          go_ret
          exact ⟨ret_int HER.out.symm, HCW.out.trans' hc2⟩
        · have HER : Hid (er = 0) := hid (by rw [hE.out, if_neg (by rw [← hr.out]; simp)])
          clear h0
          go_wp2_with (go_at_call 64; refine (contains_calls _ l _ c _ HVR.out HCB.out true hr).mono ?_; rintro e w2 ⟨rfl, hc2⟩)
          go_ret
          exact ⟨ret_int HER.out.symm, HCW.out.trans' hc2⟩
end Go.Proofs.Ytghklbflbodajaa
