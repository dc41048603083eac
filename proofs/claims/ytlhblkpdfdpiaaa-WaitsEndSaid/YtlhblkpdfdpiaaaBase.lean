import Derived.WalkKit
import Derived.WalkLawsBesides
import Derived.WalkSpells
import Derived.Maps.RangeWalk
import Derived.Deep.LoopGhost
import Derived.Deep.QuietTactic
import Derived.BigQuiet
import Derived.StillTailTactics
import Derived.Deep.RegionHeld3
import Derived.Deep.RegionLaw
import Derived.Deep.AppendLies
import Derived.Deep.DeepCutAuto
import Derived.Deep.CutBlock
import Derived.Deep.DeepFit
namespace Go.Proofs.Ytlhblkpdfdpiaaa
open Go.RowKit Go.ChangeMaps Go.MapKept

theorem hid {p : Prop} (h : p) : Hid p := h

/-! ### frames -/

/-- Outside of the blocks S the world w' is as w was. -/
structure Chg (S : Nat → Prop) (w w' : World) : Prop where
  os : w'.os = w.os
  tape : w'.tape = w.tape
  output : w'.output = w.output
  size : w.heap.size ≤ w'.heap.size
  block : ∀ k, k < w.heap.size → ¬ S k → w'.heap[k]? = w.heap[k]?

def NoB : Nat → Prop := fun _ => False
def OneB (b : Nat) : Nat → Prop := fun k => k = b
theorem OneB.self (b : Nat) : OneB b b := rfl
def InB (l : List Nat) : Nat → Prop := fun k => k ∈ l

theorem Chg.refl (S : Nat → Prop) (w : World) : Chg S w w := ⟨rfl, rfl, rfl, Nat.le_refl _, fun _ _ _ => rfl⟩

theorem Chg.trans {S T : Nat → Prop} {a b c : World} (h : Chg S a b) (k : Chg T b c) (hT : ∀ i, T i → S i ∨ a.heap.size ≤ i) : Chg S a c :=
  ⟨k.os.trans h.os, k.tape.trans h.tape, k.output.trans h.output, Nat.le_trans h.size k.size, fun i hi hs =>
    (k.block i (Nat.lt_of_lt_of_le hi h.size) (fun ht => by
      rcases hT i ht with h1 | h1
      · exact hs h1
      · omega)).trans (h.block i hi hs)⟩

theorem Chg.trans' {S : Nat → Prop} {a b c : World} (h : Chg S a b) (k : Chg S b c) : Chg S a c := h.trans k fun _ h => .inl h

theorem Chg.mono {S T : Nat → Prop} {a b : World} (h : Chg S a b) (hs : ∀ i, S i → T i ∨ a.heap.size ≤ i) : Chg T a b :=
  ⟨h.os, h.tape, h.output, h.size, fun i hi ht => h.block i hi (fun h1 => by
    rcases hs i h1 with h2 | h2
    · exact ht h2
    · omega)⟩

theorem Chg.below {a b : World} (h : Chg NoB a b) : Below a.heap.size a b := ⟨h.os, h.tape, h.output, h.size, fun k hk => h.block k hk (fun h => h)⟩
theorem Chg.of_below {a b : World} (h : Below a.heap.size a b) (S : Nat → Prop) : Chg S a b := ⟨h.os, h.tape, h.output, h.size, fun k hk _ => h.block k hk⟩
theorem Chg.of_grown {a b : World} {r : Option Nat} (h : a.grownBy b r) {S : Nat → Prop} (hs : ∀ k, r = some k → S k ∨ a.heap.size ≤ k) : Chg S a b :=
  ⟨h.os, h.tape, h.output, h.size, fun k hk hk2 => h.block k hk (fun e => by
    rcases hs k e.symm with h1 | h1
    · exact hk2 h1
    · omega)⟩

theorem Chg.drew {S : Nat → Prop} {a w : World} (h : Chg S a w) : Chg S a w.drew := ⟨h.os, h.tape, h.output, h.size, h.block⟩
theorem Chg.drewN {S : Nat → Prop} {a w : World} (h : Chg S a w) (n : Nat) : Chg S a (w.drewN n) := ⟨h.os, h.tape, h.output, h.size, h.block⟩
theorem Chg.alloc {S : Nat → Prop} {a w : World} (h : Chg S a w) (o : Obj) : Chg S a (w.alloc o) :=
  h.trans (T := S) ⟨rfl, rfl, rfl, by simp, fun k hk _ => Below.heap_alloc _ _ _ hk⟩ fun _ h => .inl h
theorem Chg.setCell {S : Nat → Prop} {a w : World} (h : Chg S a w) {p : Addr} (hp : S p.block ∨ a.heap.size ≤ p.block) (u : Value) : Chg S a (w.setCell p u) :=
  h.trans (T := OneB p.block) ⟨rfl, rfl, rfl, by simp [World.setCell], fun k _ hk => Below.heap_setCell _ _ _ _ hk⟩ fun i hi => by cases hi; exact hp
theorem Chg.setBlock {S : Nat → Prop} {a w : World} (h : Chg S a w) {b : Nat} (hp : S b ∨ a.heap.size ≤ b) (o : Obj) : Chg S a (setBlock w b o) :=
  h.trans (T := OneB b) ⟨rfl, rfl, rfl, by simp [ChangeMaps.setBlock], fun k _ hk => by
    simp only [ChangeMaps.setBlock]
    rw [Array.getElem?_setIfInBounds]
    rw [if_neg (fun e => hk e.symm)]⟩ fun i hi => by cases hi; exact hp

theorem Chg.heap {S : Nat → Prop} {a b : World} (h : Chg S a b) {k : Nat} {o : Obj} (hk : a.heap[k]? = some o) (hs : ¬ S k) : b.heap[k]? = some o :=
  (h.block k (lt_of_block hk) hs).trans hk
theorem Chg.cell {S : Nat → Prop} {a b : World} (h : Chg S a b) {p : Addr} {v : Value} (hk : a.cell? p = some v) (hs : ¬ S p.block) : b.cell? p = some v :=
  (World.cell?_of_block (h.block p.block (World.block_lt_of_cell? a p hk) hs)).trans hk
theorem Chg.frozen {S : Nat → Prop} {a b : World} (h : Chg S a b) {p : Addr} (hk : p.block < a.heap.size) (hs : ¬ S p.block) : b.frozen? p = a.frozen? p :=
  World.frozen?_of_block (h.block p.block hk hs)

theorem heap_lt {w : World} {b : Nat} {o : Obj} (h : w.heap[b]? = some o) : b < w.heap.size := lt_of_block h

theorem ret_int {k : IntKind} {x y : Int} (h : x = y) : Ending.returned (.int k x) = .returned (.int k y) := by rw [h]
theorem ret_bool {x y : Bool} (h : x = y) : Ending.returned (.bool x) = .returned (.bool y) := by rw [h]
theorem ret_val {x y : Value} (h : x = y) : Ending.returned x = .returned y := by rw [h]

/-! ### blocks of cells -/
theorem cell_blk {w : World} {b : Nat} {c : Array Value} {t : TypeId} {f : Nat × Nat} (h : w.heap[b]? = some (.cells c t f)) (i : Nat) : w.cell? ⟨b, i, none⟩ = c[i]? := by simp [World.cell?, h]
theorem frozen_blk {w : World} {b : Nat} {c : Array Value} {t : TypeId} (h : w.heap[b]? = some (.cells c t (0, 0))) (i : Nat) : w.frozen? ⟨b, i, none⟩ = false := by simp [World.frozen?, h]
theorem blk_setCell {w : World} {b : Nat} {c : Array Value} {t : TypeId} {f : Nat × Nat} (h : w.heap[b]? = some (.cells c t f)) (i : Nat) (v : Value) : (w.setCell ⟨b, i, none⟩ v).heap[b]? = some (.cells (c.setIfInBounds i v) t f) := by
  simp only [World.setCell, Array.getElem?_modify, if_true, h, Option.map_some]
  simp
theorem blk_setCell_other {w : World} {b : Nat} {o : Obj} (h : w.heap[b]? = some o) {p : Addr} (hp : b ≠ p.block) (v : Value) : (w.setCell p v).heap[b]? = some o := by
  rw [Below.heap_setCell _ _ _ _ hp]; exact h
theorem blk_alloc {w : World} {b : Nat} {o : Obj} (h : w.heap[b]? = some o) (o' : Obj) : (w.alloc o').heap[b]? = some o := by
  rw [Below.heap_alloc _ _ _ (lt_of_block h)]; exact h
theorem blk_new (w : World) (o : Obj) : (w.alloc o).heap[w.heap.size]? = some o := heap_alloc_new w o

/-! ### maps keyed by int -/
section maps
variable {ν : Type}

/-- Block r is a map; m: its entries, in the order in which they were laid. -/
def MapI (w : World) (r : Nat) (V : ν → Value) (m : List (Int × ν)) : Prop :=
  ∃ es clock, w.heap[r]? = some (.map es clock) ∧ Stamped es clock ∧ es.toList.map (fun e => (e.key, e.val)) = m.map (fun p => (Value.int .i64 p.1, V p.2))

def mput (m : List (Int × ν)) (k : Int) (v : ν) : List (Int × ν) := if m.any (fun p => p.1 == k) then m.map (fun p => if p.1 == k then (k, v) else p) else m ++ [(k, v)]
def mdel (m : List (Int × ν)) (k : Int) : List (Int × ν) := m.filter (fun p => !(p.1 == k))
def mget (m : List (Int × ν)) (k : Int) : Option ν := (m.find? (fun p => p.1 == k)).map (·.2)

theorem MapI.lt {w : World} {r : Nat} {V : ν → Value} {m : List (Int × ν)} (h : MapI w r V m) : r < w.heap.size := by
  obtain ⟨es, c, hb, _⟩ := h; exact lt_of_block hb
theorem MapI.keep {w w' : World} {r : Nat} {V : ν → Value} {m : List (Int × ν)} (h : MapI w r V m) (e : w'.heap[r]? = w.heap[r]?) : MapI w' r V m := by
  obtain ⟨es, c, hb, hs⟩ := h; exact ⟨es, c, e.trans hb, hs⟩
theorem MapI.chg {S : Nat → Prop} {w w' : World} {r : Nat} {V : ν → Value} {m : List (Int × ν)} (h : MapI w r V m) (e : Chg S w w') (hs : ¬ S r) : MapI w' r V m :=
  h.keep (e.block r h.lt hs)

theorem MapI.keys {V : ν → Value} {m : List (Int × ν)} {es : Array MapEntry} {clock : Nat} (hst : Stamped es clock) (he : es.toList.map (fun e => (e.key, e.val)) = m.map (fun p => (Value.int .i64 p.1, V p.2))) :
    (m.map (·.1)).Nodup ∧ ∀ x ∈ es.toList, IsKey (.int .i64) x.key := by
  have h1 : es.toList.map (·.key) = m.map (fun p => Value.int .i64 p.1) := by
    have := congrArg (List.map Prod.fst) he
    simpa [List.map_map, Function.comp_def] using this
  constructor
  · have h2 := hst.2.2
    rw [h1] at h2
    have h3 : (m.map (fun p => Value.int .i64 p.1)) = (m.map (·.1)).map (Value.int .i64) := by simp [List.map_map, Function.comp_def]
    rw [h3] at h2
    exact List.Pairwise.of_map _ (fun a b h e => h (by rw [e])) h2
  · intro x hx
    have : x.key ∈ es.toList.map (·.key) := List.mem_map.2 ⟨x, hx, rfl⟩
    rw [h1] at this
    obtain ⟨p, _, hp⟩ := List.mem_map.1 this
    rw [← hp]
    rfl

theorem MapI.nodup {w : World} {r : Nat} {V : ν → Value} {m : List (Int × ν)} (h : MapI w r V m) : (m.map (·.1)).Nodup := by
  obtain ⟨es, c, _, hs, he⟩ := h
  exact (MapI.keys hs he).1

theorem mget_of {m : List (Int × ν)} (hn : (m.map (·.1)).Nodup) {j : Nat} {k : Int} {v : ν} (h : m[j]? = some (k, v)) : mget m k = some v := by
  unfold mget
  induction m generalizing j with
  | nil => simp at h
  | cons p m ih =>
    simp only [List.map_cons, List.nodup_cons] at hn
    cases j with
    | zero =>
      simp at h
      subst h
      simp
    | succ j =>
      simp only [List.getElem?_cons_succ] at h
      have hm : (k, v) ∈ m := List.mem_of_getElem? h
      have hne : (p.1 == k) = false := by
        cases hb : p.1 == k
        · rfl
        · have : p.1 = k := by simpa using hb
          exact absurd (this ▸ List.mem_map.2 ⟨(k, v), hm, rfl⟩) hn.1
      rw [List.find?_cons, hne]
      exact ih hn.2 h

/-- where a key stands -/
theorem MapI.find {P : Program} {kt : TypeId} (hk : P.underlying kt = some (.int .i64)) {w : World} {V : ν → Value} {m : List (Int × ν)} {es : Array MapEntry} {clock : Nat} (hst : Stamped es clock)
    (he : es.toList.map (fun e => (e.key, e.val)) = m.map (fun p => (Value.int .i64 p.1, V p.2))) (k : Int) :
    ((Instr.findKey kt (.int .i64 k) es.toList).run P w = .ok none w ∧ mget m k = none ∧ (∀ x ∈ es.toList, x.key ≠ .int .i64 k) ∧ m.any (fun p => p.1 == k) = false) ∨
    ∃ j e v, (Instr.findKey kt (.int .i64 k) es.toList).run P w = .ok (some (j, e.val)) w ∧ es.toList[j]? = some e ∧ e.key = .int .i64 k ∧ m[j]? = some (k, v) ∧ e.val = V v ∧ mget m k = some v ∧ m.any (fun p => p.1 == k) = true := by
  obtain ⟨hn, hks⟩ := MapI.keys hst he
  have hkey : IsKey (.int .i64) (.int .i64 k) := rfl
  rcases findNow_spec hkey es.toList 0 hks with ⟨h1, h2⟩ | ⟨j, e, h1, h2, h3⟩
  · left
    have hno : ∀ p ∈ m, p.1 ≠ k := by
      intro p hp e1
      have hm : (Value.int .i64 p.1, V p.2) ∈ es.toList.map (fun e => (e.key, e.val)) := by rw [he]; exact List.mem_map.2 ⟨p, hp, rfl⟩
      obtain ⟨x, hx, hxe⟩ := List.mem_map.1 hm
      have : x.key = .int .i64 p.1 := congrArg Prod.fst hxe
      exact h2 x hx (by rw [this, e1])
    have hf : m.find? (fun p => p.1 == k) = none := List.find?_eq_none.2 (fun p hp => by simpa using hno p hp)
    exact ⟨run_findKey hk h1, by simp [mget, hf], h2, by simpa [List.any_eq_false] using hno⟩
  · right
    have h4 : (m.map (fun p => (Value.int .i64 p.1, V p.2)))[j]? = some (e.key, e.val) := by rw [← he]; simp [h2]
    simp only [List.getElem?_map, Option.map_eq_some_iff] at h4
    obtain ⟨⟨k', v⟩, hp, hpe⟩ := h4
    simp only [Prod.mk.injEq] at hpe
    obtain ⟨e1, e2⟩ := hpe
    rw [h3] at e1
    simp only [Value.int.injEq, true_and] at e1
    subst e1
    refine ⟨j, e, v, by simpa using run_findKey hk h1, h2, h3, hp, e2.symm, mget_of hn hp, ?_⟩
    exact List.any_eq_true.2 ⟨_, List.mem_of_getElem? hp, by simp⟩

theorem MapI.lookup {P : Program} {t kt et : TypeId} (ht : P.underlying t = some (.map kt et)) (hk : P.underlying kt = some (.int .i64)) {w : World} {r : Nat} {V : ν → Value} {m : List (Int × ν)} (h : MapI w r V m) {z : Value}
    (hz : (zeroValue et).run P w = .ok z w) (k : Int) (ok : Bool) :
    (Instr.lookup t (.map (some r)) (.int .i64 k) ok).run P w = .ok (if ok then .tuple #[((mget m k).map V).getD z, .bool (mget m k).isSome] else ((mget m k).map V).getD z) w := by
  obtain ⟨es, clock, hb, hst, he⟩ := h
  have hkey : IsKey (.int .i64) (.int .i64 k) := rfl
  rcases MapI.find hk (w := w) hst he k with ⟨h1, h2, h3, _⟩ | ⟨j, e, v, h1, h2, h3, h4, h5, h6, _⟩
  · cases ok <;> simp [Instr.lookup, run_underlying ht, MapKept.run_getObj_map hb, run_checkKey hk hkey, h1, h2, hz, Result.andThen]
  · cases ok <;> simp [Instr.lookup, run_underlying ht, MapKept.run_getObj_map hb, run_checkKey hk hkey, h1, h5, h6, Result.andThen]

theorem MapI.update {P : Program} {t kt et : TypeId} (ht : P.underlying t = some (.map kt et)) (hk : P.underlying kt = some (.int .i64)) {w : World} {r : Nat} {V : ν → Value} {m : List (Int × ν)} (h : MapI w r V m) (k : Int) (v : ν) :
    ∃ w', (Instr.mapUpdate t (.map (some r)) (.int .i64 k) (V v)).run P w = .ok () w' ∧ MapI w' r V (mput m k v) ∧ Chg (OneB r) w w' ∧ w'.heap.size = w.heap.size := by
  obtain ⟨es, clock, hb, hst, he⟩ := h
  have hkey : IsKey (.int .i64) (.int .i64 k) := rfl
  rcases MapI.find hk (w := w) hst he k with ⟨h1, h2, h3, h4⟩ | ⟨j, e, v0, h1, h2, h3, h4, h5, h6, h7⟩
  · refine ⟨setBlock w r (.map (es.push ⟨.int .i64 k, V v, clock⟩) (clock + 1)), ?_, ⟨_, _, heap_setBlock_same hb _, stamped_push hst h3, ?_⟩, (Chg.refl (OneB r) w).setBlock (.inl (OneB.self r)) _, by simp [setBlock]⟩
    · simp [Instr.mapUpdate, run_underlying ht, MapKept.run_getObj_map hb, run_checkKey hk hkey, h1, MapKept.run_setObj_map _ hb, Result.andThen, setBlock]
    · simp [mput, h4, he]
  · have hjl : j < es.size := by
      have := (List.getElem?_eq_some_iff.1 h2).1
      simpa using this
    have hej : es[j]? = some e := by simpa using h2
    refine ⟨setBlock w r (.map (es.modify j fun e => { e with key := .int .i64 k, val := V v }) clock), ?_, ⟨_, _, heap_setBlock_same hb _, ?_, ?_⟩, (Chg.refl (OneB r) w).setBlock (.inl (OneB.self r)) _, by simp [setBlock]⟩
    · simp [Instr.mapUpdate, run_underlying ht, MapKept.run_getObj_map hb, run_checkKey hk hkey, h1, MapKept.run_setObj_map _ hb, Result.andThen, setBlock, hej, h3, run_keyThatStays hkey]
    · refine stamped_modify hst j _ (fun _ _ => rfl) (fun e1 _ he1 => ?_)
      rw [hej] at he1
      cases he1
      exact h3.symm
    · have hn := (MapI.keys hst he).1
      simp only [mput, h7, if_true]
      apply List.ext_getElem?
      intro i
      have hi := congrArg (·[i]?) he
      simp only [List.getElem?_map, Array.getElem?_toList] at hi
      simp only [List.getElem?_map, Array.getElem?_toList, Array.getElem?_modify, Option.map_map, Function.comp_def]
      by_cases hij : j = i
      · subst hij
        simp only [if_true, hej, h4, Option.map_some, beq_self_eq_true]
      · rw [if_neg hij]
        cases hmi : m[i]? with
        | none => rw [hmi] at hi; simpa using hi
        | some p =>
          rw [hmi] at hi
          have hpk : (p.1 == k) = false := by
            cases hb2 : p.1 == k
            · rfl
            · exfalso
              have e1 : p.1 = k := by simpa using hb2
              have a1 : (m.map (·.1))[i]? = some k := by simp [hmi, e1]
              have a2 : (m.map (·.1))[j]? = some k := by simp [h4]
              exact hij ((List.getElem?_inj (List.getElem?_eq_some_iff.1 a2).1 hn).1 (a2.trans a1.symm))
          simp only [Option.map_some, hpk] at hi ⊢
          simpa using hi

theorem MapI.delete {P : Program} {t kt et : TypeId} (ht : P.underlying t = some (.map kt et)) (hk : P.underlying kt = some (.int .i64)) {w : World} {r : Nat} {V : ν → Value} {m : List (Int × ν)} (h : MapI w r V m) (k : Int) (ty : TypeId) :
    ∃ w', (Builtin.delete_ #[t, kt] ty #[.map (some r), .int .i64 k]).run P w = .ok (.tuple #[]) w' ∧ MapI w' r V (mdel m k) ∧ Chg (OneB r) w w' ∧ w'.heap.size = w.heap.size := by
  obtain ⟨es, clock, hb, hst, he⟩ := h
  have hkey : IsKey (.int .i64) (.int .i64 k) := rfl
  have hn := (MapI.keys hst he).1
  rcases MapI.find hk (w := w) hst he k with ⟨h1, h2, h3, h4⟩ | ⟨j, e, v0, h1, h2, h3, h4, h5, h6, h7⟩
  · refine ⟨setBlock w r (.map es clock), ?_, ⟨_, _, heap_setBlock_same hb _, hst, ?_⟩, (Chg.refl (OneB r) w).setBlock (.inl (OneB.self r)) _, by simp [setBlock]⟩
    · simp [Builtin.delete_, run_underlying ht, MapKept.run_getObj_map hb, run_checkKey hk hkey, h1, MapKept.run_setObj_map _ hb, Result.andThen, setBlock]
    · rw [he]
      congr 1
      unfold mdel
      symm
      rw [List.filter_eq_self]
      intro p hp
      have := List.any_eq_false.1 h4 p hp
      simpa using this
  · have hjl : j < es.size := by
      have := (List.getElem?_eq_some_iff.1 h2).1
      simpa using this
    refine ⟨setBlock w r (.map (es.eraseIdxIfInBounds j) clock), ?_, ⟨_, _, heap_setBlock_same hb _, stamped_erase hst j, ?_⟩, (Chg.refl (OneB r) w).setBlock (.inl (OneB.self r)) _, by simp [setBlock]⟩
    · simp [Builtin.delete_, run_underlying ht, MapKept.run_getObj_map hb, run_checkKey hk hkey, h1, MapKept.run_setObj_map _ hb, Result.andThen, setBlock]
    · have hsub : (es.eraseIdxIfInBounds j).toList = es.toList.eraseIdx j := by
        unfold Array.eraseIdxIfInBounds
        rw [dif_pos hjl]
        simp
      rw [hsub, ChangeMaps.map_eraseIdx, he, ← ChangeMaps.map_eraseIdx]
      congr 1
      unfold mdel
      clear h1 h2 h3 h5 h6 h7 he hst hjl hsub hb
      induction m generalizing j with
      | nil => simp at h4
      | cons p m ih =>
        simp only [List.map_cons, List.nodup_cons] at hn
        cases j with
        | zero =>
          simp at h4
          subst h4
          simp only [List.eraseIdx_zero, List.tail_cons, List.filter_cons, beq_self_eq_true, Bool.not_true, Bool.false_eq_true, if_false]
          symm
          rw [List.filter_eq_self]
          intro q hq
          have : q.1 ≠ k := fun e1 => hn.1 (List.mem_map.2 ⟨q, hq, e1⟩)
          simpa using this
        | succ j =>
          simp only [List.getElem?_cons_succ] at h4
          have hne : (p.1 == k) = false := by
            cases hb : p.1 == k
            · rfl
            · have e1 : p.1 = k := by simpa using hb
              exact absurd (e1 ▸ List.mem_map.2 ⟨(k, v0), List.mem_of_getElem? h4, rfl⟩) hn.1
          simp only [List.eraseIdx_cons_succ, List.filter_cons, hne, Bool.not_false, if_true]
          rw [ih hn.2 j h4]

theorem MapI.made (w : World) (V : ν → Value) : MapI (w.alloc (.map #[] 0)) w.heap.size V [] :=
  ⟨#[], 0, heap_alloc_new w _, stamped_empty 0, rfl⟩

theorem MapI.len {P : Program} {t kt et : TypeId} (ht : P.underlying t = some (.map kt et)) {w : World} {r : Nat} {V : ν → Value} {m : List (Int × ν)} (h : MapI w r V m) (ty : TypeId) :
    (Builtin.len_ #[t] ty #[.map (some r)]).run P w = .ok (.int .i64 m.length) w := by
  obtain ⟨es, clock, hb, hst, he⟩ := h
  have hl : es.size = m.length := by
    have := congrArg List.length he
    simpa using this
  simp [Builtin.len_, run_underlying ht, MapKept.run_getObj_map hb, Result.andThen, goInt, hl]

end maps

/-! ### the walk's steps -/
section steps
variable {P : Program} {w : World} {ops : Array Oper} {rest : List Oper} {o : Oper} {a : Act} {Q : Exit → Act → World → Prop}

theorem step_run {v : Value} {w' : World} (hg : Region.wanted o (yielded ops a.tmps) = true) (h : (execOp a.eval o).run P w = .ok (.value v) w') (hK : wpList P ops Q rest (a.put o.dst v) w') : wpList P ops Q (o :: rest) a w := by
  unfold wpList
  rw [if_pos hg]
  left
  unfold Oper.wp
  rw [h]
  exact hK

theorem step_skip {w' : World} (hg : Region.wanted o (yielded ops a.tmps) = true) (h : (execOp a.eval o).run P w = .ok .skip w') (hK : wpList P ops Q rest (a.put o.dst undef) w') : wpList P ops Q (o :: rest) a w := by
  unfold wpList
  rw [if_pos hg]
  left
  unfold Oper.wp
  rw [h]
  exact hK

theorem wanted_none {o : Oper} {y : Nat → Option Bool} (h : o.guard = none) : Region.wanted o y = true := by simp [Region.wanted, h]

variable {ν : Type} {V : ν → Value} {r : Nat} {m : List (Int × ν)}

theorem step_lookup (hm : MapI w r V m) (hg : o.guard = none) (x y : Operand) (t kt et : TypeId) (ok : Bool) (hop : o.op = Op.lookup t x y ok)
    (ht : P.underlying t = some (.map kt et)) (hk : P.underlying kt = some (.int .i64)) {z : Value} (hz : (zeroValue et).run P w = .ok z w) (k : Int)
    (hx : a.eval x = .map (some r)) (hy : a.eval y = .int .i64 k)
    (hK : wpList P ops Q rest (a.put o.dst (if ok then .tuple #[((mget m k).map V).getD z, .bool (mget m k).isSome] else ((mget m k).map V).getD z)) w) : wpList P ops Q (o :: rest) a w := by
  refine step_run (wanted_none hg) ?_ hK
  simp [execOp, hop, hx, hy, hm.lookup ht hk hz k ok, Result.andThen]

theorem step_mapUpdate (hm : MapI w r V m) (hg : o.guard = none) (x y z : Operand) (t kt et : TypeId) (hop : o.op = Op.mapUpdate t x y z)
    (ht : P.underlying t = some (.map kt et)) (hk : P.underlying kt = some (.int .i64)) (k : Int) (v : ν)
    (hx : a.eval x = .map (some r)) (hy : a.eval y = .int .i64 k) (hz : a.eval z = V v)
    (hK : ∀ w', MapI w' r V (mput m k v) → Chg (OneB r) w w' → w'.heap.size = w.heap.size → wpList P ops Q rest (a.put o.dst undef) w') : wpList P ops Q (o :: rest) a w := by
  obtain ⟨w', hrun, h1, h2, h3⟩ := hm.update ht hk k v
  refine step_skip (w' := w') (wanted_none hg) ?_ (hK w' h1 h2 h3)
  simp [execOp, hop, hx, hy, hz, hrun, Result.andThen]

theorem step_delete (hm : MapI w r V m) (hg : o.guard = none) (x y : Operand) (t kt et : TypeId) (hop : o.op = Op.call { callee := Callee.builtin Builtin.delete, args := #[x, y], argTypes := #[t, kt] })
    (ht : P.underlying t = some (.map kt et)) (hk : P.underlying kt = some (.int .i64)) (k : Int)
    (hx : a.eval x = .map (some r)) (hy : a.eval y = .int .i64 k)
    (hK : ∀ w', MapI w' r V (mdel m k) → Chg (OneB r) w w' → w'.heap.size = w.heap.size → wpList P ops Q rest (a.put o.dst (.tuple #[])) w') : wpList P ops Q (o :: rest) a w := by
  obtain ⟨w', hrun, h1, h2, h3⟩ := hm.delete ht hk k o.type
  refine step_run (w' := w') (v := .tuple #[]) (wanted_none hg) ?_ (hK w' h1 h2 h3)
  simp [execOp, hop, resolve, invoke, builtin, hx, hy, hrun, Result.andThen]

end steps

/-! ### ranging over a map that no round changes -/
section ranging
variable {ν : Type} {V : ν → Value} {r it : Nat} {m todo : List (Int × ν)} {w : World}

/-- Block it ranges over the map r; todo: what is still to come. -/
def RangeI (w : World) (it r : Nat) (V : ν → Value) (m todo : List (Int × ν)) : Prop :=
  ∃ es clock since seen c0, w.heap[r]? = some (.map es clock) ∧ Stamped es clock ∧ es.toList.map (fun e => (e.key, e.val)) = m.map (fun p => (Value.int .i64 p.1, V p.2)) ∧
    w.heap[it]? = some (.mapIter (some r) since seen c0) ∧ (∀ x ∈ es.toList, x.born < since) ∧ since ≤ c0 ∧ since ≤ clock ∧
    (leftOf es seen).toList.map (fun e => (e.key, e.val)) = todo.map (fun p => (Value.int .i64 p.1, V p.2)) ∧ todo.Sublist m

theorem filter_born {L : List MapEntry} {e : MapEntry} {j : Nat} (hborn : (L.map (·.born)).Nodup) (hj : L[j]? = some e) : L.filter (fun x => !(x.born == e.born)) = L.eraseIdx j := by
  induction L generalizing j with
  | nil => simp at hj
  | cons x L ih =>
    simp only [List.map_cons, List.nodup_cons] at hborn
    cases j with
    | zero =>
      simp at hj
      subst hj
      simp only [List.filter_cons, beq_self_eq_true, Bool.not_true, Bool.false_eq_true, if_false, List.eraseIdx_zero, List.tail_cons]
      rw [List.filter_eq_self]
      intro y hy
      have : y.born ≠ x.born := fun e1 => hborn.1 (List.mem_map.2 ⟨y, hy, e1⟩)
      simpa using this
    | succ j =>
      simp only [List.getElem?_cons_succ] at hj
      have hxe : (x.born == e.born) = false := by
        cases hb : x.born == e.born
        · rfl
        · have e1 : x.born = e.born := by simpa using hb
          exact absurd (e1 ▸ List.mem_map.2 ⟨e, List.mem_of_getElem? hj, rfl⟩) hborn.1
      simp only [List.filter_cons, hxe, Bool.not_false, if_true, List.eraseIdx_cons_succ]
      rw [ih hborn.2 hj]

theorem RangeI.map (h : RangeI w it r V m todo) : MapI w r V m := by
  obtain ⟨es, clock, since, seen, c0, h1, h2, h3, _⟩ := h
  exact ⟨es, clock, h1, h2, h3⟩

theorem RangeI.keep {w' : World} (h : RangeI w it r V m todo) (e1 : w'.heap[r]? = w.heap[r]?) (e2 : w'.heap[it]? = w.heap[it]?) : RangeI w' it r V m todo := by
  obtain ⟨es, clock, since, seen, c0, h1, h2, h3, h4, h5⟩ := h
  exact ⟨es, clock, since, seen, c0, e1.trans h1, h2, h3, e2.trans h4, h5⟩

theorem RangeI.lt (h : RangeI w it r V m todo) : it < w.heap.size := by
  obtain ⟨es, clock, since, seen, c0, h1, h2, h3, h4, h5⟩ := h
  exact lt_of_block h4

theorem RangeI.chg {S : Nat → Prop} {w' : World} (h : RangeI w it r V m todo) (e : Chg S w w') (h1 : ¬ S r) (h2 : ¬ S it) : RangeI w' it r V m todo :=
  h.keep (e.block r h.map.lt h1) (e.block it h.lt h2)

theorem RangeI.start {P : Program} {t kt et : TypeId} (ht : P.underlying t = some (.map kt et)) (h : MapI w r V m) :
    (Instr.range t (.map (some r))).run P w = .ok (.pointer (some ⟨w.heap.size, 0, none⟩)) (w.alloc (.mapIter (some r) (h.choose_spec.choose) #[] (h.choose_spec.choose))) ∧
    RangeI (w.alloc (.mapIter (some r) (h.choose_spec.choose) #[] (h.choose_spec.choose))) w.heap.size r V m m := by
  have hs := h.choose_spec.choose_spec
  generalize h.choose_spec.choose = clock at hs
  generalize h.choose = es at hs
  obtain ⟨hb, hst, he⟩ := hs
  refine ⟨run_range_map w t kt et r es clock ht hb, es, clock, clock, #[], clock, blk_alloc hb _, hst, he, heap_alloc_new w _, hst.1, Nat.le_refl _, Nat.le_refl _, ?_, List.Sublist.refl _⟩
  have : leftOf es #[] = es := by
    unfold leftOf
    rw [Array.filter_eq_self]
    intro x _
    simp
  rw [this, he]

/-- The step: nothing is left, or one of those that are left comes. -/
theorem RangeI.next {P : Program} (h : RangeI w it r V m todo) (ty : TypeId) :
    (todo = [] ∧ (Instr.next (.pointer (some ⟨it, 0, none⟩)) false ty).run P w = .ok (.tuple #[.bool false]) w) ∨
    ∃ k v todo' w', (k, v) ∈ m ∧ todo.Perm ((k, v) :: todo') ∧ todo'.Sublist m ∧ (Instr.next (.pointer (some ⟨it, 0, none⟩)) false ty).run P w = .ok (.tuple #[.bool true, .int .i64 k, V v]) w' ∧
      RangeI w' it r V m todo' ∧ Chg (OneB it) w w' ∧ w'.heap.size = w.heap.size ∧ (Instr.entry (.pointer (some ⟨it, 0, none⟩))).run P w' = .ok (.tuple #[.int .i64 k, V v]) w' := by
  obtain ⟨es, clock, since, seen, c0, hb, hst, he, hi, hold, hsc, hsk, hl, hsub⟩ := h
  have hne : it ≠ r := by intro e; rw [e, hb] at hi; cases hi
  rcases run_next_at (P := P) w ty it r since c0 seen es clock hi hb hold hsc with ⟨h0, hrun⟩ | ⟨e, hem, w1, hal, hrun⟩
  · left
    refine ⟨?_, hrun⟩
    have := congrArg List.length hl
    simp only [List.length_map, Array.length_toList, h0] at this
    exact List.eq_nil_of_length_eq_zero this.symm
  · right
    obtain ⟨j, hj⟩ := List.getElem?_of_mem hem
    have hj2 := congrArg (·[j]?) hl
    simp only [List.getElem?_map, hj, Option.map_some] at hj2
    obtain ⟨⟨k, v⟩, hp, hpe⟩ := Option.map_eq_some_iff.1 hj2.symm
    simp only [Prod.mk.injEq] at hpe
    obtain ⟨e1, e2⟩ := hpe
    have hmem : (k, v) ∈ m := hsub.subset (List.mem_of_getElem? hp)
    have hi1 : w1.heap[it]? = some (.mapIter (some r) since seen c0) := by rcases hal with rfl | rfl <;> exact hi
    have hb1 : w1.heap[r]? = some (.map es clock) := by rcases hal with rfl | rfl <;> exact hb
    have hset := heap_set (o' := .mapIter (some r) since (seen.push e.born) clock) hi1
    have hc1 : Chg (OneB it) w w1 := by rcases hal with rfl | rfl; exact Chg.refl _ _; exact (Chg.refl _ _).drew
    have hs1 : w1.heap.size = w.heap.size := by rcases hal with rfl | rfl <;> rfl
    have hees : e ∈ es.toList := (mem_left hem).1
    have hjt : j < todo.length := (List.getElem?_eq_some_iff.1 hp).1
    refine ⟨k, v, todo.eraseIdx j, _, hmem, ?_, (List.eraseIdx_sublist _ _).trans hsub, by rw [e1, e2]; exact hrun, ⟨es, clock, since, seen.push e.born, clock, (hset.2 r (fun e1 => hne e1.symm)).trans hb1, hst, he, hset.1, hold, hsk, hsk, ?_, (List.eraseIdx_sublist _ _).trans hsub⟩,
      hc1.setBlock (.inl (OneB.self it)) _, by simp [setBlock, hs1], ?_⟩
    · have h1 : todo[j] = (k, v) := (List.getElem?_eq_some_iff.1 hp).2
      have h2 : todo = todo.take j ++ (k, v) :: todo.drop (j + 1) := by
        rw [← h1, List.getElem_cons_drop, List.take_append_drop]
      rw [List.eraseIdx_eq_take_drop_succ]
      conv => lhs; rw [h2]
      exact List.perm_middle
    · rw [ChangeMaps.map_eraseIdx, ← hl, ← ChangeMaps.map_eraseIdx]
      congr 1
      -- leftOf es (seen.push e.born) = (leftOf es seen).eraseIdx j
      have hborn : ((leftOf es seen).toList.map (·.born)).Nodup := by
        unfold leftOf
        rw [Array.toList_filter]
        exact List.Nodup.sublist (List.Sublist.map _ List.filter_sublist) hst.2.1
      have hL : (leftOf es (seen.push e.born)).toList = (leftOf es seen).toList.filter (fun x => !(x.born == e.born)) := by
        unfold leftOf
        rw [Array.toList_filter, Array.toList_filter, List.filter_filter]
        congr 1
        funext x
        rw [contains_push]
        cases seen.contains x.born <;> cases (x.born == e.born) <;> rfl
      rw [hL]
      exact filter_born hborn hj
    · rw [e1, e2]
      exact run_entry_at _ it r since seen es clock e hset.1 ((hset.2 r (fun e1 => hne e1.symm)).trans hb1) hees hst.2.1

variable {P : Program} {ops : Array Oper} {rest : List Oper} {o : Oper} {a : Act} {Q : Exit → Act → World → Prop}

theorem step_range (h : MapI w r V m) (hg : o.guard = none) (x : Operand) (t kt et : TypeId) (hop : o.op = Op.range t x) (ht : P.underlying t = some (.map kt et)) (hx : a.eval x = .map (some r))
    (hK : ∀ w', RangeI w' w.heap.size r V m m → Chg NoB w w' → w'.heap.size = w.heap.size + 1 → wpList P ops Q rest (a.put o.dst (.pointer (some ⟨w.heap.size, 0, none⟩))) w') : wpList P ops Q (o :: rest) a w := by
  obtain ⟨h1, h2⟩ := RangeI.start ht h
  refine step_run (wanted_none hg) ?_ (hK _ h2 ((Chg.refl _ _).alloc _) (by simp))
  simp [execOp, hop, hx, h1, Result.andThen]

theorem step_next (h : RangeI w it r V m todo) (hg : o.guard = none) (x : Operand) (hop : o.op = Op.next x false) (hx : a.eval x = .pointer (some ⟨it, 0, none⟩))
    (hDone : todo = [] → wpList P ops Q rest (a.put o.dst (.tuple #[.bool false])) w)
    (hMore : ∀ k v todo' w', (k, v) ∈ m → todo.Perm ((k, v) :: todo') → todo'.Sublist m → RangeI w' it r V m todo' → Chg (OneB it) w w' → w'.heap.size = w.heap.size → (Instr.entry (.pointer (some ⟨it, 0, none⟩))).run P w' = .ok (.tuple #[.int .i64 k, V v]) w' →
      wpList P ops Q rest (a.put o.dst (.tuple #[.bool true, .int .i64 k, V v])) w') : wpList P ops Q (o :: rest) a w := by
  rcases h.next (P := P) o.type with ⟨h0, hrun⟩ | ⟨k, v, todo', w', h1, h2, h3, hrun, h4, h5, h6, h7⟩
  · refine step_run (wanted_none hg) ?_ (hDone h0)
    simp [execOp, hop, hx, hrun, Result.andThen]
  · refine step_run (wanted_none hg) ?_ (hMore k v todo' w' h1 h2 h3 h4 h5 h6 h7)
    simp [execOp, hop, hx, hrun, Result.andThen]

end ranging
/-! ### slices that the call owns -/
section owned
variable {P : Program} {w : World} {ops : Array Oper} {rest : List Oper} {o : Oper} {a : Act} {Q : Exit → Act → World → Prop}

/-- t is the type of slices of e, whose zero value is z, of size cells. -/
structure SlT (P : Program) (t e : TypeId) (z : Value) (size bytes : Nat) : Prop where
  und : P.underlying t = some (.slice e)
  inf : (P.info? e).map (fun i => (i.zero, i.size, i.bytes)) = some (some z, size, bytes)
  zs : z.cells.size = size
  pos : 0 < size

def OwnB (v : Value) : Nat → Prop := fun k => v.ownBlock = some k

theorem ownB_nil : OwnB (.slice none 0 0) = NoB := by funext k; simp [OwnB, NoB, Value.ownBlock]

theorem OwnB.ge {base size n : Nat} {e : TypeId} {v : Value} {xs : List Value} (h : w.ownsRow base e size v n xs) : ∀ k, OwnB v k → base ≤ k ∧ k < w.heap.size := fun k hk => h.lt k hk

theorem ownsRow.chg {base size n : Nat} {e : TypeId} {v : Value} {xs : List Value} {S : Nat → Prop} {w' : World} (h : w.ownsRow base e size v n xs) (hc : Chg S w w') (hs : ∀ k, OwnB v k → ¬ S k) : w'.ownsRow base e size v n xs := by
  refine ⟨h.1, ?_⟩
  rcases h.2 with hn | ⟨g, cap, cur, rfl, hb, hgg, rest⟩
  · exact .inl hn
  · exact .inr ⟨g, cap, cur, rfl, hb, hc.heap hgg (hs g (by simp [OwnB, Value.ownBlock])), rest⟩

theorem step_append1 {t e : TypeId} {z : Value} {size bytes : Nat} (T : SlT P t e z size bytes) (hg : o.guard = none) (s x : Operand) (hop : o.op = .call { callee := .builtin .append, args := #[s, x], argTypes := #[t, t] })
    {base n : Nat} {v : Value} {xs : List Value} (hown : w.ownsRow base e size v n xs) (hs : a.eval s = v) (b : Nat) (cs : List Value) (hx : a.eval x = .slice (some ⟨b, 0, none⟩) 1 1)
    {c : Array Value} {e' : TypeId} {f : Nat × Nat} (hb : w.heap[b]? = some (.cells c e' f)) (hc : c = cs.toArray) (hl : cs.length = size) (h1 : ∀ u ∈ cs, u.oneCell' = true)
    (hn : (n + 1) * bytes ≤ 140737488355328) (hn2 : n + 1 ≤ maxLen) (hbase : base ≤ w.heap.size)
    (hK : ∀ v' w', w'.ownsRow base e size v' (n + 1) (xs ++ cs) → Chg (OwnB v) w w' → v' ≠ .slice none 0 0 → wpList P ops Q rest (a.put o.dst v') w') : wpList P ops Q (o :: rest) a w := by
  obtain ⟨i, hi, hz0, hz1, hz2⟩ := info_parts T.inf
  subst hc
  refine wpList_append_own w hg s x t hop base e i z size bytes T.und hi hz0 hz1 hz2 T.zs T.pos v n xs hs hown ⟨b, 0, none⟩ 1 1 cs hx (by omega) (fun j u hu => ?_) h1 hn2 hn hbase fun v' w' h2 h3 h4 => hK v' w' h2 (Chg.of_grown h3 fun k hk => .inl hk) (fun e => by simpa using h4.1 e)
  have e1 : (⟨b, 0, none⟩ : Addr).add j = ⟨b, j, none⟩ := by unfold Addr.add; split <;> simp_all
  rw [e1, cell_blk hb]
  simpa using hu

end owned

section intmaps
variable {P : Program} {w : World} {ops : Array Oper} {rest : List Oper} {o : Oper} {a : Act} {Q : Exit → Act → World → Prop}
theorem map_getD0 (x : Option Int) : (x.map (Value.int .i64)).getD (.int .i64 0) = .int .i64 (x.getD 0) := by cases x <;> rfl
/-- m[k] of a map of ints -/
theorem step_lookup_int {r : Nat} {m : List (Int × Int)} (hm : MapI w r (Value.int .i64) m) (hg : o.guard = none) (x y : Operand) (t kt et : TypeId) (hop : o.op = Op.lookup t x y false)
    (ht : P.underlying t = some (.map kt et)) (hk : P.underlying kt = some (.int .i64)) (hz : (zeroValue et).run P w = .ok (.int .i64 0) w) (k : Int)
    (hx : a.eval x = .map (some r)) (hy : a.eval y = .int .i64 k)
    (hK : wpList P ops Q rest (a.put o.dst (.int .i64 ((mget m k).getD 0))) w) : wpList P ops Q (o :: rest) a w := by
  refine step_lookup hm hg x y t kt et false hop ht hk hz k hx hy ?_
  simpa [map_getD0] using hK
end intmaps

end Go.Proofs.Ytlhblkpdfdpiaaa
