import Derived.WalkKit
import Derived.WalkLawsBesides
import Derived.WalkSpells
import Derived.Maps.RangeWalk
import Derived.Deep.LoopGhost
import Derived.Deep.QuietTactic
import Derived.BigQuiet
import Derived.StillTailTactics
import Derived.Deep.RegionHeld3
import Derived.Deep.RegionLaw
import Derived.Deep.AppendLies
import Derived.Deep.DeepCutAuto
import Derived.Deep.CutBlock
import Derived.Deep.DeepFit
import Derived.ChangeArms
import Derived.Deep.Slices
import Derived.DataReads
import Derived.Test.YtghklbflbodajaaProg
import Derived.Laws.ResultCell
import Derived.Laws.Tables
import Derived.Laws.Rows
namespace Go.Proofs.Ytghklbflbodajaa
open Go.RowKit Go.ChangeMaps Go.MapKept

theorem hid {p : Prop} (h : p) : Hid p := h

/-! ### frames -/

/-- Outside of the blocks S the world w' is as w was. -/
structure Chg (S : Nat → Prop) (w w' : World) : Prop where
  os : w'.os = w.os
  tape : w'.tape = w.tape
  output : w'.output = w.output
  size : w.heap.size ≤ w'.heap.size
  block : ∀ k, k < w.heap.size → ¬ S k → w'.heap[k]? = w.heap[k]?

def NoB : Nat → Prop := fun _ => False
def OneB (b : Nat) : Nat → Prop := fun k => k = b
theorem OneB.self (b : Nat) : OneB b b := rfl
def InB (l : List Nat) : Nat → Prop := fun k => k ∈ l

theorem Chg.refl (S : Nat → Prop) (w : World) : Chg S w w := ⟨rfl, rfl, rfl, Nat.le_refl _, fun _ _ _ => rfl⟩

theorem Chg.trans {S T : Nat → Prop} {a b c : World} (h : Chg S a b) (k : Chg T b c) (hT : ∀ i, T i → S i ∨ a.heap.size ≤ i) : Chg S a c :=
  ⟨k.os.trans h.os, k.tape.trans h.tape, k.output.trans h.output, Nat.le_trans h.size k.size, fun i hi hs =>
    (k.block i (Nat.lt_of_lt_of_le hi h.size) (fun ht => by
      rcases hT i ht with h1 | h1
      · exact hs h1
      · omega)).trans (h.block i hi hs)⟩

theorem Chg.trans' {S : Nat → Prop} {a b c : World} (h : Chg S a b) (k : Chg S b c) : Chg S a c := h.trans k fun _ h => .inl h

theorem Chg.mono {S T : Nat → Prop} {a b : World} (h : Chg S a b) (hs : ∀ i, S i → T i ∨ a.heap.size ≤ i) : Chg T a b :=
  ⟨h.os, h.tape, h.output, h.size, fun i hi ht => h.block i hi (fun h1 => by
    rcases hs i h1 with h2 | h2
    · exact ht h2
    · omega)⟩

theorem Chg.below {a b : World} (h : Chg NoB a b) : Below a.heap.size a b := ⟨h.os, h.tape, h.output, h.size, fun k hk => h.block k hk (fun h => h)⟩
theorem Chg.of_below {a b : World} (h : Below a.heap.size a b) (S : Nat → Prop) : Chg S a b := ⟨h.os, h.tape, h.output, h.size, fun k hk _ => h.block k hk⟩
theorem Chg.of_grown {a b : World} {r : Option Nat} (h : a.grownBy b r) {S : Nat → Prop} (hs : ∀ k, r = some k → S k ∨ a.heap.size ≤ k) : Chg S a b :=
  ⟨h.os, h.tape, h.output, h.size, fun k hk hk2 => h.block k hk (fun e => by
    rcases hs k e.symm with h1 | h1
    · exact hk2 h1
    · omega)⟩

theorem Chg.drew {S : Nat → Prop} {a w : World} (h : Chg S a w) : Chg S a w.drew := ⟨h.os, h.tape, h.output, h.size, h.block⟩
theorem Chg.drewN {S : Nat → Prop} {a w : World} (h : Chg S a w) (n : Nat) : Chg S a (w.drewN n) := ⟨h.os, h.tape, h.output, h.size, h.block⟩
theorem Chg.alloc {S : Nat → Prop} {a w : World} (h : Chg S a w) (o : Obj) : Chg S a (w.alloc o) :=
  h.trans (T := S) ⟨rfl, rfl, rfl, by simp, fun k hk _ => Below.heap_alloc _ _ _ hk⟩ fun _ h => .inl h
theorem Chg.setCell {S : Nat → Prop} {a w : World} (h : Chg S a w) {p : Addr} (hp : S p.block ∨ a.heap.size ≤ p.block) (u : Value) : Chg S a (w.setCell p u) :=
  h.trans (T := OneB p.block) ⟨rfl, rfl, rfl, by simp [World.setCell], fun k _ hk => Below.heap_setCell _ _ _ _ hk⟩ fun i hi => by cases hi; exact hp
theorem Chg.setBlock {S : Nat → Prop} {a w : World} (h : Chg S a w) {b : Nat} (hp : S b ∨ a.heap.size ≤ b) (o : Obj) : Chg S a (setBlock w b o) :=
  h.trans (T := OneB b) ⟨rfl, rfl, rfl, by simp [ChangeMaps.setBlock], fun k _ hk => by
    simp only [ChangeMaps.setBlock]
    rw [Array.getElem?_setIfInBounds]
    rw [if_neg (fun e => hk e.symm)]⟩ fun i hi => by cases hi; exact hp

theorem Chg.heap {S : Nat → Prop} {a b : World} (h : Chg S a b) {k : Nat} {o : Obj} (hk : a.heap[k]? = some o) (hs : ¬ S k) : b.heap[k]? = some o :=
  (h.block k (lt_of_block hk) hs).trans hk
theorem Chg.cell {S : Nat → Prop} {a b : World} (h : Chg S a b) {p : Addr} {v : Value} (hk : a.cell? p = some v) (hs : ¬ S p.block) : b.cell? p = some v :=
  (World.cell?_of_block (h.block p.block (World.block_lt_of_cell? a p hk) hs)).trans hk
theorem Chg.frozen {S : Nat → Prop} {a b : World} (h : Chg S a b) {p : Addr} (hk : p.block < a.heap.size) (hs : ¬ S p.block) : b.frozen? p = a.frozen? p :=
  World.frozen?_of_block (h.block p.block hk hs)

theorem heap_lt {w : World} {b : Nat} {o : Obj} (h : w.heap[b]? = some o) : b < w.heap.size := lt_of_block h

theorem ret_int {k : IntKind} {x y : Int} (h : x = y) : Ending.returned (.int k x) = .returned (.int k y) := by rw [h]
theorem ret_bool {x y : Bool} (h : x = y) : Ending.returned (.bool x) = .returned (.bool y) := by rw [h]
theorem ret_val {x y : Value} (h : x = y) : Ending.returned x = .returned y := by rw [h]

/-! ### blocks of cells -/
theorem cell_blk {w : World} {b : Nat} {c : Array Value} {t : TypeId} {f : Nat × Nat} (h : w.heap[b]? = some (.cells c t f)) (i : Nat) : w.cell? ⟨b, i, none⟩ = c[i]? := by simp [World.cell?, h]
theorem frozen_blk {w : World} {b : Nat} {c : Array Value} {t : TypeId} (h : w.heap[b]? = some (.cells c t (0, 0))) (i : Nat) : w.frozen? ⟨b, i, none⟩ = false := by simp [World.frozen?, h]
theorem blk_setCell {w : World} {b : Nat} {c : Array Value} {t : TypeId} {f : Nat × Nat} (h : w.heap[b]? = some (.cells c t f)) (i : Nat) (v : Value) : (w.setCell ⟨b, i, none⟩ v).heap[b]? = some (.cells (c.setIfInBounds i v) t f) := by
  simp only [World.setCell, Array.getElem?_modify, if_true, h, Option.map_some]
  simp
theorem blk_setCell_other {w : World} {b : Nat} {o : Obj} (h : w.heap[b]? = some o) {p : Addr} (hp : b ≠ p.block) (v : Value) : (w.setCell p v).heap[b]? = some o := by
  rw [Below.heap_setCell _ _ _ _ hp]; exact h
theorem blk_alloc {w : World} {b : Nat} {o : Obj} (h : w.heap[b]? = some o) (o' : Obj) : (w.alloc o').heap[b]? = some o := by
  rw [Below.heap_alloc _ _ _ (lt_of_block h)]; exact h
theorem blk_new (w : World) (o : Obj) : (w.alloc o).heap[w.heap.size]? = some o := heap_alloc_new w o

/-! ### maps keyed by int -/
section maps
variable {ν : Type}

/-- Block r is a map; m: its entries, in the order in which they were laid. -/
def MapI (w : World) (r : Nat) (V : ν → Value) (m : List (Int × ν)) : Prop :=
  ∃ es clock, w.heap[r]? = some (.map es clock) ∧ Stamped es clock ∧ es.toList.map (fun e => (e.key, e.val)) = m.map (fun p => (Value.int .i64 p.1, V p.2))

def mput (m : List (Int × ν)) (k : Int) (v : ν) : List (Int × ν) := if m.any (fun p => p.1 == k) then m.map (fun p => if p.1 == k then (k, v) else p) else m ++ [(k, v)]
def mdel (m : List (Int × ν)) (k : Int) : List (Int × ν) := m.filter (fun p => !(p.1 == k))
def mget (m : List (Int × ν)) (k : Int) : Option ν := (m.find? (fun p => p.1 == k)).map (·.2)

theorem MapI.lt {w : World} {r : Nat} {V : ν → Value} {m : List (Int × ν)} (h : MapI w r V m) : r < w.heap.size := by
  obtain ⟨es, c, hb, _⟩ := h; exact lt_of_block hb
theorem MapI.keep {w w' : World} {r : Nat} {V : ν → Value} {m : List (Int × ν)} (h : MapI w r V m) (e : w'.heap[r]? = w.heap[r]?) : MapI w' r V m := by
  obtain ⟨es, c, hb, hs⟩ := h; exact ⟨es, c, e.trans hb, hs⟩
theorem MapI.chg {S : Nat → Prop} {w w' : World} {r : Nat} {V : ν → Value} {m : List (Int × ν)} (h : MapI w r V m) (e : Chg S w w') (hs : ¬ S r) : MapI w' r V m :=
  h.keep (e.block r h.lt hs)

theorem MapI.keys {V : ν → Value} {m : List (Int × ν)} {es : Array MapEntry} {clock : Nat} (hst : Stamped es clock) (he : es.toList.map (fun e => (e.key, e.val)) = m.map (fun p => (Value.int .i64 p.1, V p.2))) :
    (m.map (·.1)).Nodup ∧ ∀ x ∈ es.toList, IsKey (.int .i64) x.key := by
  have h1 : es.toList.map (·.key) = m.map (fun p => Value.int .i64 p.1) := by
    have := congrArg (List.map Prod.fst) he
    simpa [List.map_map, Function.comp_def] using this
  constructor
  · have h2 := hst.2.2
    rw [h1] at h2
    have h3 : (m.map (fun p => Value.int .i64 p.1)) = (m.map (·.1)).map (Value.int .i64) := by simp [List.map_map, Function.comp_def]
    rw [h3] at h2
    exact List.Pairwise.of_map _ (fun a b h e => h (by rw [e])) h2
  · intro x hx
    have : x.key ∈ es.toList.map (·.key) := List.mem_map.2 ⟨x, hx, rfl⟩
    rw [h1] at this
    obtain ⟨p, _, hp⟩ := List.mem_map.1 this
    rw [← hp]
    rfl

theorem MapI.nodup {w : World} {r : Nat} {V : ν → Value} {m : List (Int × ν)} (h : MapI w r V m) : (m.map (·.1)).Nodup := by
  obtain ⟨es, c, _, hs, he⟩ := h
  exact (MapI.keys hs he).1

theorem mget_of {m : List (Int × ν)} (hn : (m.map (·.1)).Nodup) {j : Nat} {k : Int} {v : ν} (h : m[j]? = some (k, v)) : mget m k = some v := by
  unfold mget
  induction m generalizing j with
  | nil => simp at h
  | cons p m ih =>
    simp only [List.map_cons, List.nodup_cons] at hn
    cases j with
    | zero =>
      simp at h
      subst h
      simp
    | succ j =>
      simp only [List.getElem?_cons_succ] at h
      have hm : (k, v) ∈ m := List.mem_of_getElem? h
      have hne : (p.1 == k) = false := by
        cases hb : p.1 == k
        · rfl
        · have : p.1 = k := by simpa using hb
          exact absurd (this ▸ List.mem_map.2 ⟨(k, v), hm, rfl⟩) hn.1
      rw [List.find?_cons, hne]
      exact ih hn.2 h

/-- where a key stands -/
theorem MapI.find {P : Program} {kt : TypeId} (hk : P.underlying kt = some (.int .i64)) {w : World} {V : ν → Value} {m : List (Int × ν)} {es : Array MapEntry} {clock : Nat} (hst : Stamped es clock)
    (he : es.toList.map (fun e => (e.key, e.val)) = m.map (fun p => (Value.int .i64 p.1, V p.2))) (k : Int) :
    ((Instr.findKey kt (.int .i64 k) es.toList).run P w = .ok none w ∧ mget m k = none ∧ (∀ x ∈ es.toList, x.key ≠ .int .i64 k) ∧ m.any (fun p => p.1 == k) = false) ∨
    ∃ j e v, (Instr.findKey kt (.int .i64 k) es.toList).run P w = .ok (some (j, e.val)) w ∧ es.toList[j]? = some e ∧ e.key = .int .i64 k ∧ m[j]? = some (k, v) ∧ e.val = V v ∧ mget m k = some v ∧ m.any (fun p => p.1 == k) = true := by
  obtain ⟨hn, hks⟩ := MapI.keys hst he
  have hkey : IsKey (.int .i64) (.int .i64 k) := rfl
  rcases findNow_spec hkey es.toList 0 hks with ⟨h1, h2⟩ | ⟨j, e, h1, h2, h3⟩
  · left
    have hno : ∀ p ∈ m, p.1 ≠ k := by
      intro p hp e1
      have hm : (Value.int .i64 p.1, V p.2) ∈ es.toList.map (fun e => (e.key, e.val)) := by rw [he]; exact List.mem_map.2 ⟨p, hp, rfl⟩
      obtain ⟨x, hx, hxe⟩ := List.mem_map.1 hm
      have : x.key = .int .i64 p.1 := congrArg Prod.fst hxe
      exact h2 x hx (by rw [this, e1])
    have hf : m.find? (fun p => p.1 == k) = none := List.find?_eq_none.2 (fun p hp => by simpa using hno p hp)
    exact ⟨run_findKey hk h1, by simp [mget, hf], h2, by simpa [List.any_eq_false] using hno⟩
  · right
    have h4 : (m.map (fun p => (Value.int .i64 p.1, V p.2)))[j]? = some (e.key, e.val) := by rw [← he]; simp [h2]
    simp only [List.getElem?_map, Option.map_eq_some_iff] at h4
    obtain ⟨⟨k', v⟩, hp, hpe⟩ := h4
    simp only [Prod.mk.injEq] at hpe
    obtain ⟨e1, e2⟩ := hpe
    rw [h3] at e1
    simp only [Value.int.injEq, true_and] at e1
    subst e1
    refine ⟨j, e, v, by simpa using run_findKey hk h1, h2, h3, hp, e2.symm, mget_of hn hp, ?_⟩
    exact List.any_eq_true.2 ⟨_, List.mem_of_getElem? hp, by simp⟩

theorem MapI.lookup {P : Program} {t kt et : TypeId} (ht : P.underlying t = some (.map kt et)) (hk : P.underlying kt = some (.int .i64)) {w : World} {r : Nat} {V : ν → Value} {m : List (Int × ν)} (h : MapI w r V m) {z : Value}
    (hz : (zeroValue et).run P w = .ok z w) (k : Int) (ok : Bool) :
    (Instr.lookup t (.map (some r)) (.int .i64 k) ok).run P w = .ok (if ok then .tuple #[((mget m k).map V).getD z, .bool (mget m k).isSome] else ((mget m k).map V).getD z) w := by
  obtain ⟨es, clock, hb, hst, he⟩ := h
  have hkey : IsKey (.int .i64) (.int .i64 k) := rfl
  rcases MapI.find hk (w := w) hst he k with ⟨h1, h2, h3, _⟩ | ⟨j, e, v, h1, h2, h3, h4, h5, h6, _⟩
  · cases ok <;> simp [Instr.lookup, run_underlying ht, MapKept.run_getObj_map hb, run_checkKey hk hkey, h1, h2, hz, Result.andThen]
  · cases ok <;> simp [Instr.lookup, run_underlying ht, MapKept.run_getObj_map hb, run_checkKey hk hkey, h1, h5, h6, Result.andThen]

theorem MapI.update {P : Program} {t kt et : TypeId} (ht : P.underlying t = some (.map kt et)) (hk : P.underlying kt = some (.int .i64)) {w : World} {r : Nat} {V : ν → Value} {m : List (Int × ν)} (h : MapI w r V m) (k : Int) (v : ν) :
    ∃ w', (Instr.mapUpdate t (.map (some r)) (.int .i64 k) (V v)).run P w = .ok () w' ∧ MapI w' r V (mput m k v) ∧ Chg (OneB r) w w' ∧ w'.heap.size = w.heap.size := by
  obtain ⟨es, clock, hb, hst, he⟩ := h
  have hkey : IsKey (.int .i64) (.int .i64 k) := rfl
  rcases MapI.find hk (w := w) hst he k with ⟨h1, h2, h3, h4⟩ | ⟨j, e, v0, h1, h2, h3, h4, h5, h6, h7⟩
  · refine ⟨setBlock w r (.map (es.push ⟨.int .i64 k, V v, clock⟩) (clock + 1)), ?_, ⟨_, _, heap_setBlock_same hb _, stamped_push hst h3, ?_⟩, (Chg.refl (OneB r) w).setBlock (.inl (OneB.self r)) _, by simp [setBlock]⟩
    · simp [Instr.mapUpdate, run_underlying ht, MapKept.run_getObj_map hb, run_checkKey hk hkey, h1, MapKept.run_setObj_map _ hb, Result.andThen, setBlock]
    · simp [mput, h4, he]
  · have hjl : j < es.size := by
      have := (List.getElem?_eq_some_iff.1 h2).1
      simpa using this
    have hej : es[j]? = some e := by simpa using h2
    refine ⟨setBlock w r (.map (es.modify j fun e => { e with key := .int .i64 k, val := V v }) clock), ?_, ⟨_, _, heap_setBlock_same hb _, ?_, ?_⟩, (Chg.refl (OneB r) w).setBlock (.inl (OneB.self r)) _, by simp [setBlock]⟩
    · simp [Instr.mapUpdate, run_underlying ht, MapKept.run_getObj_map hb, run_checkKey hk hkey, h1, MapKept.run_setObj_map _ hb, Result.andThen, setBlock, hej, h3, run_keyThatStays hkey]
    · refine stamped_modify hst j _ (fun _ _ => rfl) (fun e1 _ he1 => ?_)
      rw [hej] at he1
      cases he1
      exact h3.symm
    · have hn := (MapI.keys hst he).1
      simp only [mput, h7, if_true]
      apply List.ext_getElem?
      intro i
      have hi := congrArg (·[i]?) he
      simp only [List.getElem?_map, Array.getElem?_toList] at hi
      simp only [List.getElem?_map, Array.getElem?_toList, Array.getElem?_modify, Option.map_map, Function.comp_def]
      by_cases hij : j = i
      · subst hij
        simp only [if_true, hej, h4, Option.map_some, beq_self_eq_true]
      · rw [if_neg hij]
        cases hmi : m[i]? with
        | none => rw [hmi] at hi; simpa using hi
        | some p =>
          rw [hmi] at hi
          have hpk : (p.1 == k) = false := by
            cases hb2 : p.1 == k
            · rfl
            · exfalso
              have e1 : p.1 = k := by simpa using hb2
              have a1 : (m.map (·.1))[i]? = some k := by simp [hmi, e1]
              have a2 : (m.map (·.1))[j]? = some k := by simp [h4]
              exact hij ((List.getElem?_inj (List.getElem?_eq_some_iff.1 a2).1 hn).1 (a2.trans a1.symm))
          simp only [Option.map_some, hpk] at hi ⊢
          simpa using hi

theorem MapI.delete {P : Program} {t kt et : TypeId} (ht : P.underlying t = some (.map kt et)) (hk : P.underlying kt = some (.int .i64)) {w : World} {r : Nat} {V : ν → Value} {m : List (Int × ν)} (h : MapI w r V m) (k : Int) (ty : TypeId) :
    ∃ w', (Builtin.delete_ #[t, kt] ty #[.map (some r), .int .i64 k]).run P w = .ok (.tuple #[]) w' ∧ MapI w' r V (mdel m k) ∧ Chg (OneB r) w w' ∧ w'.heap.size = w.heap.size := by
  obtain ⟨es, clock, hb, hst, he⟩ := h
  have hkey : IsKey (.int .i64) (.int .i64 k) := rfl
  have hn := (MapI.keys hst he).1
  rcases MapI.find hk (w := w) hst he k with ⟨h1, h2, h3, h4⟩ | ⟨j, e, v0, h1, h2, h3, h4, h5, h6, h7⟩
  · refine ⟨setBlock w r (.map es clock), ?_, ⟨_, _, heap_setBlock_same hb _, hst, ?_⟩, (Chg.refl (OneB r) w).setBlock (.inl (OneB.self r)) _, by simp [setBlock]⟩
    · simp [Builtin.delete_, run_underlying ht, MapKept.run_getObj_map hb, run_checkKey hk hkey, h1, MapKept.run_setObj_map _ hb, Result.andThen, setBlock]
    · rw [he]
      congr 1
      unfold mdel
      symm
      rw [List.filter_eq_self]
      intro p hp
      have := List.any_eq_false.1 h4 p hp
      simpa using this
  · have hjl : j < es.size := by
      have := (List.getElem?_eq_some_iff.1 h2).1
      simpa using this
    refine ⟨setBlock w r (.map (es.eraseIdxIfInBounds j) clock), ?_, ⟨_, _, heap_setBlock_same hb _, stamped_erase hst j, ?_⟩, (Chg.refl (OneB r) w).setBlock (.inl (OneB.self r)) _, by simp [setBlock]⟩
    · simp [Builtin.delete_, run_underlying ht, MapKept.run_getObj_map hb, run_checkKey hk hkey, h1, MapKept.run_setObj_map _ hb, Result.andThen, setBlock]
    · have hsub : (es.eraseIdxIfInBounds j).toList = es.toList.eraseIdx j := by
        unfold Array.eraseIdxIfInBounds
        rw [dif_pos hjl]
        simp
      rw [hsub, ChangeMaps.map_eraseIdx, he, ← ChangeMaps.map_eraseIdx]
      congr 1
      unfold mdel
      clear h1 h2 h3 h5 h6 h7 he hst hjl hsub hb
      induction m generalizing j with
      | nil => simp at h4
      | cons p m ih =>
        simp only [List.map_cons, List.nodup_cons] at hn
        cases j with
        | zero =>
          simp at h4
          subst h4
          simp only [List.eraseIdx_zero, List.tail_cons, List.filter_cons, beq_self_eq_true, Bool.not_true, Bool.false_eq_true, if_false]
          symm
          rw [List.filter_eq_self]
          intro q hq
          have : q.1 ≠ k := fun e1 => hn.1 (List.mem_map.2 ⟨q, hq, e1⟩)
          simpa using this
        | succ j =>
          simp only [List.getElem?_cons_succ] at h4
          have hne : (p.1 == k) = false := by
            cases hb : p.1 == k
            · rfl
            · have e1 : p.1 = k := by simpa using hb
              exact absurd (e1 ▸ List.mem_map.2 ⟨(k, v0), List.mem_of_getElem? h4, rfl⟩) hn.1
          simp only [List.eraseIdx_cons_succ, List.filter_cons, hne, Bool.not_false, if_true]
          rw [ih hn.2 j h4]

theorem MapI.made (w : World) (V : ν → Value) : MapI (w.alloc (.map #[] 0)) w.heap.size V [] :=
  ⟨#[], 0, heap_alloc_new w _, stamped_empty 0, rfl⟩

theorem MapI.len {P : Program} {t kt et : TypeId} (ht : P.underlying t = some (.map kt et)) {w : World} {r : Nat} {V : ν → Value} {m : List (Int × ν)} (h : MapI w r V m) (ty : TypeId) :
    (Builtin.len_ #[t] ty #[.map (some r)]).run P w = .ok (.int .i64 m.length) w := by
  obtain ⟨es, clock, hb, hst, he⟩ := h
  have hl : es.size = m.length := by
    have := congrArg List.length he
    simpa using this
  simp [Builtin.len_, run_underlying ht, MapKept.run_getObj_map hb, Result.andThen, goInt, hl]

end maps

/-! ### the walk's steps -/
section steps
variable {P : Program} {w : World} {ops : Array Oper} {rest : List Oper} {o : Oper} {a : Act} {Q : Exit → Act → World → Prop}

theorem step_run {v : Value} {w' : World} (hg : Region.wanted o (yielded ops a.tmps) = true) (h : (execOp a.eval o).run P w = .ok (.value v) w') (hK : wpList P ops Q rest (a.put o.dst v) w') : wpList P ops Q (o :: rest) a w := by
  unfold wpList
  rw [if_pos hg]
  left
  unfold Oper.wp
  rw [h]
  exact hK

theorem step_skip {w' : World} (hg : Region.wanted o (yielded ops a.tmps) = true) (h : (execOp a.eval o).run P w = .ok .skip w') (hK : wpList P ops Q rest (a.put o.dst undef) w') : wpList P ops Q (o :: rest) a w := by
  unfold wpList
  rw [if_pos hg]
  left
  unfold Oper.wp
  rw [h]
  exact hK

theorem wanted_none {o : Oper} {y : Nat → Option Bool} (h : o.guard = none) : Region.wanted o y = true := by simp [Region.wanted, h]

variable {ν : Type} {V : ν → Value} {r : Nat} {m : List (Int × ν)}

theorem step_lookup (hm : MapI w r V m) (hg : o.guard = none) (x y : Operand) (t kt et : TypeId) (ok : Bool) (hop : o.op = Op.lookup t x y ok)
    (ht : P.underlying t = some (.map kt et)) (hk : P.underlying kt = some (.int .i64)) {z : Value} (hz : (zeroValue et).run P w = .ok z w) (k : Int)
    (hx : a.eval x = .map (some r)) (hy : a.eval y = .int .i64 k)
    (hK : wpList P ops Q rest (a.put o.dst (if ok then .tuple #[((mget m k).map V).getD z, .bool (mget m k).isSome] else ((mget m k).map V).getD z)) w) : wpList P ops Q (o :: rest) a w := by
  refine step_run (wanted_none hg) ?_ hK
  simp [execOp, hop, hx, hy, hm.lookup ht hk hz k ok, Result.andThen]

theorem step_mapUpdate (hm : MapI w r V m) (hg : o.guard = none) (x y z : Operand) (t kt et : TypeId) (hop : o.op = Op.mapUpdate t x y z)
    (ht : P.underlying t = some (.map kt et)) (hk : P.underlying kt = some (.int .i64)) (k : Int) (v : ν)
    (hx : a.eval x = .map (some r)) (hy : a.eval y = .int .i64 k) (hz : a.eval z = V v)
    (hK : ∀ w', MapI w' r V (mput m k v) → Chg (OneB r) w w' → w'.heap.size = w.heap.size → wpList P ops Q rest (a.put o.dst undef) w') : wpList P ops Q (o :: rest) a w := by
  obtain ⟨w', hrun, h1, h2, h3⟩ := hm.update ht hk k v
  refine step_skip (w' := w') (wanted_none hg) ?_ (hK w' h1 h2 h3)
  simp [execOp, hop, hx, hy, hz, hrun, Result.andThen]

theorem step_delete (hm : MapI w r V m) (hg : o.guard = none) (x y : Operand) (t kt et : TypeId) (hop : o.op = Op.call { callee := Callee.builtin Builtin.delete, args := #[x, y], argTypes := #[t, kt] })
    (ht : P.underlying t = some (.map kt et)) (hk : P.underlying kt = some (.int .i64)) (k : Int)
    (hx : a.eval x = .map (some r)) (hy : a.eval y = .int .i64 k)
    (hK : ∀ w', MapI w' r V (mdel m k) → Chg (OneB r) w w' → w'.heap.size = w.heap.size → wpList P ops Q rest (a.put o.dst (.tuple #[])) w') : wpList P ops Q (o :: rest) a w := by
  obtain ⟨w', hrun, h1, h2, h3⟩ := hm.delete ht hk k o.type
  refine step_run (w' := w') (v := .tuple #[]) (wanted_none hg) ?_ (hK w' h1 h2 h3)
  simp [execOp, hop, resolve, invoke, builtin, hx, hy, hrun, Result.andThen]

end steps

/-! ### ranging over a map that no round changes -/
section ranging
variable {ν : Type} {V : ν → Value} {r it : Nat} {m todo : List (Int × ν)} {w : World}

/-- Block it ranges over the map r; todo: what is still to come. -/
def RangeI (w : World) (it r : Nat) (V : ν → Value) (m todo : List (Int × ν)) : Prop :=
  ∃ es clock since seen c0, w.heap[r]? = some (.map es clock) ∧ Stamped es clock ∧ es.toList.map (fun e => (e.key, e.val)) = m.map (fun p => (Value.int .i64 p.1, V p.2)) ∧
    w.heap[it]? = some (.mapIter (some r) since seen c0) ∧ (∀ x ∈ es.toList, x.born < since) ∧ since ≤ c0 ∧ since ≤ clock ∧
    (leftOf es seen).toList.map (fun e => (e.key, e.val)) = todo.map (fun p => (Value.int .i64 p.1, V p.2)) ∧ todo.Sublist m

theorem filter_born {L : List MapEntry} {e : MapEntry} {j : Nat} (hborn : (L.map (·.born)).Nodup) (hj : L[j]? = some e) : L.filter (fun x => !(x.born == e.born)) = L.eraseIdx j := by
  induction L generalizing j with
  | nil => simp at hj
  | cons x L ih =>
    simp only [List.map_cons, List.nodup_cons] at hborn
    cases j with
    | zero =>
      simp at hj
      subst hj
      simp only [List.filter_cons, beq_self_eq_true, Bool.not_true, Bool.false_eq_true, if_false, List.eraseIdx_zero, List.tail_cons]
      rw [List.filter_eq_self]
      intro y hy
      have : y.born ≠ x.born := fun e1 => hborn.1 (List.mem_map.2 ⟨y, hy, e1⟩)
      simpa using this
    | succ j =>
      simp only [List.getElem?_cons_succ] at hj
      have hxe : (x.born == e.born) = false := by
        cases hb : x.born == e.born
        · rfl
        · have e1 : x.born = e.born := by simpa using hb
          exact absurd (e1 ▸ List.mem_map.2 ⟨e, List.mem_of_getElem? hj, rfl⟩) hborn.1
      simp only [List.filter_cons, hxe, Bool.not_false, if_true, List.eraseIdx_cons_succ]
      rw [ih hborn.2 hj]

theorem RangeI.map (h : RangeI w it r V m todo) : MapI w r V m := by
  obtain ⟨es, clock, since, seen, c0, h1, h2, h3, _⟩ := h
  exact ⟨es, clock, h1, h2, h3⟩

theorem RangeI.keep {w' : World} (h : RangeI w it r V m todo) (e1 : w'.heap[r]? = w.heap[r]?) (e2 : w'.heap[it]? = w.heap[it]?) : RangeI w' it r V m todo := by
  obtain ⟨es, clock, since, seen, c0, h1, h2, h3, h4, h5⟩ := h
  exact ⟨es, clock, since, seen, c0, e1.trans h1, h2, h3, e2.trans h4, h5⟩

theorem RangeI.lt (h : RangeI w it r V m todo) : it < w.heap.size := by
  obtain ⟨es, clock, since, seen, c0, h1, h2, h3, h4, h5⟩ := h
  exact lt_of_block h4

theorem RangeI.chg {S : Nat → Prop} {w' : World} (h : RangeI w it r V m todo) (e : Chg S w w') (h1 : ¬ S r) (h2 : ¬ S it) : RangeI w' it r V m todo :=
  h.keep (e.block r h.map.lt h1) (e.block it h.lt h2)

theorem RangeI.start {P : Program} {t kt et : TypeId} (ht : P.underlying t = some (.map kt et)) (h : MapI w r V m) :
    (Instr.range t (.map (some r))).run P w = .ok (.pointer (some ⟨w.heap.size, 0, none⟩)) (w.alloc (.mapIter (some r) (h.choose_spec.choose) #[] (h.choose_spec.choose))) ∧
    RangeI (w.alloc (.mapIter (some r) (h.choose_spec.choose) #[] (h.choose_spec.choose))) w.heap.size r V m m := by
  have hs := h.choose_spec.choose_spec
  generalize h.choose_spec.choose = clock at hs
  generalize h.choose = es at hs
  obtain ⟨hb, hst, he⟩ := hs
  refine ⟨run_range_map w t kt et r es clock ht hb, es, clock, clock, #[], clock, blk_alloc hb _, hst, he, heap_alloc_new w _, hst.1, Nat.le_refl _, Nat.le_refl _, ?_, List.Sublist.refl _⟩
  have : leftOf es #[] = es := by
    unfold leftOf
    rw [Array.filter_eq_self]
    intro x _
    simp
  rw [this, he]

/-- The step: nothing is left, or one of those that are left comes. -/
theorem RangeI.next {P : Program} (h : RangeI w it r V m todo) (ty : TypeId) :
    (todo = [] ∧ (Instr.next (.pointer (some ⟨it, 0, none⟩)) false ty).run P w = .ok (.tuple #[.bool false]) w) ∨
    ∃ k v todo' w', (k, v) ∈ m ∧ todo.Perm ((k, v) :: todo') ∧ todo'.Sublist m ∧ (Instr.next (.pointer (some ⟨it, 0, none⟩)) false ty).run P w = .ok (.tuple #[.bool true, .int .i64 k, V v]) w' ∧
      RangeI w' it r V m todo' ∧ Chg (OneB it) w w' ∧ w'.heap.size = w.heap.size ∧ (Instr.entry (.pointer (some ⟨it, 0, none⟩))).run P w' = .ok (.tuple #[.int .i64 k, V v]) w' := by
  obtain ⟨es, clock, since, seen, c0, hb, hst, he, hi, hold, hsc, hsk, hl, hsub⟩ := h
  have hne : it ≠ r := by intro e; rw [e, hb] at hi; cases hi
  rcases run_next_at (P := P) w ty it r since c0 seen es clock hi hb hold hsc with ⟨h0, hrun⟩ | ⟨e, hem, w1, hal, hrun⟩
  · left
    refine ⟨?_, hrun⟩
    have := congrArg List.length hl
    simp only [List.length_map, Array.length_toList, h0] at this
    exact List.eq_nil_of_length_eq_zero this.symm
  · right
    obtain ⟨j, hj⟩ := List.getElem?_of_mem hem
    have hj2 := congrArg (·[j]?) hl
    simp only [List.getElem?_map, hj, Option.map_some] at hj2
    obtain ⟨⟨k, v⟩, hp, hpe⟩ := Option.map_eq_some_iff.1 hj2.symm
    simp only [Prod.mk.injEq] at hpe
    obtain ⟨e1, e2⟩ := hpe
    have hmem : (k, v) ∈ m := hsub.subset (List.mem_of_getElem? hp)
    have hi1 : w1.heap[it]? = some (.mapIter (some r) since seen c0) := by rcases hal with rfl | rfl <;> exact hi
    have hb1 : w1.heap[r]? = some (.map es clock) := by rcases hal with rfl | rfl <;> exact hb
    have hset := heap_set (o' := .mapIter (some r) since (seen.push e.born) clock) hi1
    have hc1 : Chg (OneB it) w w1 := by rcases hal with rfl | rfl; exact Chg.refl _ _; exact (Chg.refl _ _).drew
    have hs1 : w1.heap.size = w.heap.size := by rcases hal with rfl | rfl <;> rfl
    have hees : e ∈ es.toList := (mem_left hem).1
    have hjt : j < todo.length := (List.getElem?_eq_some_iff.1 hp).1
    refine ⟨k, v, todo.eraseIdx j, _, hmem, ?_, (List.eraseIdx_sublist _ _).trans hsub, by rw [e1, e2]; exact hrun, ⟨es, clock, since, seen.push e.born, clock, (hset.2 r (fun e1 => hne e1.symm)).trans hb1, hst, he, hset.1, hold, hsk, hsk, ?_, (List.eraseIdx_sublist _ _).trans hsub⟩,
      hc1.setBlock (.inl (OneB.self it)) _, by simp [setBlock, hs1], ?_⟩
    · have h1 : todo[j] = (k, v) := (List.getElem?_eq_some_iff.1 hp).2
      have h2 : todo = todo.take j ++ (k, v) :: todo.drop (j + 1) := by
        rw [← h1, List.getElem_cons_drop, List.take_append_drop]
      rw [List.eraseIdx_eq_take_drop_succ]
      conv => lhs; rw [h2]
      exact List.perm_middle
    · rw [ChangeMaps.map_eraseIdx, ← hl, ← ChangeMaps.map_eraseIdx]
      congr 1
      -- leftOf es (seen.push e.born) = (leftOf es seen).eraseIdx j
      have hborn : ((leftOf es seen).toList.map (·.born)).Nodup := by
        unfold leftOf
        rw [Array.toList_filter]
        exact List.Nodup.sublist (List.Sublist.map _ List.filter_sublist) hst.2.1
      have hL : (leftOf es (seen.push e.born)).toList = (leftOf es seen).toList.filter (fun x => !(x.born == e.born)) := by
        unfold leftOf
        rw [Array.toList_filter, Array.toList_filter, List.filter_filter]
        congr 1
        funext x
        rw [contains_push]
        cases seen.contains x.born <;> cases (x.born == e.born) <;> rfl
      rw [hL]
      exact filter_born hborn hj
    · rw [e1, e2]
      exact run_entry_at _ it r since seen es clock e hset.1 ((hset.2 r (fun e1 => hne e1.symm)).trans hb1) hees hst.2.1

variable {P : Program} {ops : Array Oper} {rest : List Oper} {o : Oper} {a : Act} {Q : Exit → Act → World → Prop}

theorem step_range (h : MapI w r V m) (hg : o.guard = none) (x : Operand) (t kt et : TypeId) (hop : o.op = Op.range t x) (ht : P.underlying t = some (.map kt et)) (hx : a.eval x = .map (some r))
    (hK : ∀ w', RangeI w' w.heap.size r V m m → Chg NoB w w' → w'.heap.size = w.heap.size + 1 → wpList P ops Q rest (a.put o.dst (.pointer (some ⟨w.heap.size, 0, none⟩))) w') : wpList P ops Q (o :: rest) a w := by
  obtain ⟨h1, h2⟩ := RangeI.start ht h
  refine step_run (wanted_none hg) ?_ (hK _ h2 ((Chg.refl _ _).alloc _) (by simp))
  simp [execOp, hop, hx, h1, Result.andThen]

theorem step_next (h : RangeI w it r V m todo) (hg : o.guard = none) (x : Operand) (hop : o.op = Op.next x false) (hx : a.eval x = .pointer (some ⟨it, 0, none⟩))
    (hDone : todo = [] → wpList P ops Q rest (a.put o.dst (.tuple #[.bool false])) w)
    (hMore : ∀ k v todo' w', (k, v) ∈ m → todo.Perm ((k, v) :: todo') → todo'.Sublist m → RangeI w' it r V m todo' → Chg (OneB it) w w' → w'.heap.size = w.heap.size → (Instr.entry (.pointer (some ⟨it, 0, none⟩))).run P w' = .ok (.tuple #[.int .i64 k, V v]) w' →
      wpList P ops Q rest (a.put o.dst (.tuple #[.bool true, .int .i64 k, V v])) w') : wpList P ops Q (o :: rest) a w := by
  rcases h.next (P := P) o.type with ⟨h0, hrun⟩ | ⟨k, v, todo', w', h1, h2, h3, hrun, h4, h5, h6, h7⟩
  · refine step_run (wanted_none hg) ?_ (hDone h0)
    simp [execOp, hop, hx, hrun, Result.andThen]
  · refine step_run (wanted_none hg) ?_ (hMore k v todo' w' h1 h2 h3 h4 h5 h6 h7)
    simp [execOp, hop, hx, hrun, Result.andThen]

end ranging
/-! ### slices that the call owns -/
section owned
variable {P : Program} {w : World} {ops : Array Oper} {rest : List Oper} {o : Oper} {a : Act} {Q : Exit → Act → World → Prop}

/-- t is the type of slices of e, whose zero value is z, of size cells. -/
structure SlT (P : Program) (t e : TypeId) (z : Value) (size bytes : Nat) : Prop where
  und : P.underlying t = some (.slice e)
  inf : (P.info? e).map (fun i => (i.zero, i.size, i.bytes)) = some (some z, size, bytes)
  zs : z.cells.size = size
  pos : 0 < size

def OwnB (v : Value) : Nat → Prop := fun k => v.ownBlock = some k

theorem ownB_nil : OwnB (.slice none 0 0) = NoB := by funext k; simp [OwnB, NoB, Value.ownBlock]

theorem OwnB.ge {base size n : Nat} {e : TypeId} {v : Value} {xs : List Value} (h : w.ownsRow base e size v n xs) : ∀ k, OwnB v k → base ≤ k ∧ k < w.heap.size := fun k hk => h.lt k hk

theorem ownsRow.chg {base size n : Nat} {e : TypeId} {v : Value} {xs : List Value} {S : Nat → Prop} {w' : World} (h : w.ownsRow base e size v n xs) (hc : Chg S w w') (hs : ∀ k, OwnB v k → ¬ S k) : w'.ownsRow base e size v n xs := by
  refine ⟨h.1, ?_⟩
  rcases h.2 with hn | ⟨g, cap, cur, rfl, hb, hgg, rest⟩
  · exact .inl hn
  · exact .inr ⟨g, cap, cur, rfl, hb, hc.heap hgg (hs g (by simp [OwnB, Value.ownBlock])), rest⟩

theorem step_append1 {t e : TypeId} {z : Value} {size bytes : Nat} (T : SlT P t e z size bytes) (hg : o.guard = none) (s x : Operand) (hop : o.op = .call { callee := .builtin .append, args := #[s, x], argTypes := #[t, t] })
    {base n : Nat} {v : Value} {xs : List Value} (hown : w.ownsRow base e size v n xs) (hs : a.eval s = v) (b : Nat) (cs : List Value) (hx : a.eval x = .slice (some ⟨b, 0, none⟩) 1 1)
    {c : Array Value} {e' : TypeId} {f : Nat × Nat} (hb : w.heap[b]? = some (.cells c e' f)) (hc : c = cs.toArray) (hl : cs.length = size) (h1 : ∀ u ∈ cs, u.oneCell' = true)
    (hn : (n + 1) * bytes ≤ 140737488355328) (hn2 : n + 1 ≤ maxLen) (hbase : base ≤ w.heap.size)
    (hK : ∀ v' w', w'.ownsRow base e size v' (n + 1) (xs ++ cs) → Chg (OwnB v) w w' → v' ≠ .slice none 0 0 → wpList P ops Q rest (a.put o.dst v') w') : wpList P ops Q (o :: rest) a w := by
  obtain ⟨i, hi, hz0, hz1, hz2⟩ := info_parts T.inf
  subst hc
  refine wpList_append_own w hg s x t hop base e i z size bytes T.und hi hz0 hz1 hz2 T.zs T.pos v n xs hs hown ⟨b, 0, none⟩ 1 1 cs hx (by omega) (fun j u hu => ?_) h1 hn2 hn hbase fun v' w' h2 h3 h4 => hK v' w' h2 (Chg.of_grown h3 fun k hk => .inl hk) (fun e => by simpa using h4.1 e)
  have e1 : (⟨b, 0, none⟩ : Addr).add j = ⟨b, j, none⟩ := by unfold Addr.add; split <;> simp_all
  rw [e1, cell_blk hb]
  simpa using hu

end owned

section intmaps
variable {P : Program} {w : World} {ops : Array Oper} {rest : List Oper} {o : Oper} {a : Act} {Q : Exit → Act → World → Prop}
theorem map_getD0 (x : Option Int) : (x.map (Value.int .i64)).getD (.int .i64 0) = .int .i64 (x.getD 0) := by cases x <;> rfl
/-- m[k] of a map of ints -/
theorem step_lookup_int {r : Nat} {m : List (Int × Int)} (hm : MapI w r (Value.int .i64) m) (hg : o.guard = none) (x y : Operand) (t kt et : TypeId) (hop : o.op = Op.lookup t x y false)
    (ht : P.underlying t = some (.map kt et)) (hk : P.underlying kt = some (.int .i64)) (hz : (zeroValue et).run P w = .ok (.int .i64 0) w) (k : Int)
    (hx : a.eval x = .map (some r)) (hy : a.eval y = .int .i64 k)
    (hK : wpList P ops Q rest (a.put o.dst (.int .i64 ((mget m k).getD 0))) w) : wpList P ops Q (o :: rest) a w := by
  refine step_lookup hm hg x y t kt et false hop ht hk hz k hx hy ?_
  simpa [map_getD0] using hK
end intmaps

end Go.Proofs.Ytghklbflbodajaa

namespace Go.Proofs.Ytghklbflbodajaa
open Go.RowKit Go.ChangeMaps Go.MapKept
set_option linter.unusedVariables false
set_option linter.unusedSimpArgs false
set_option linter.unnecessarySimpa false

/-- x under a name of its own. -/
theorem named {α : Type} (x : α) : ∃ y, Hid (y = x) := ⟨x, rfl⟩

/-- What was made since w may turn. -/
theorem Chg.new {S : Nat → Prop} {w a b : World} (h : Chg NoB w a) (k : Chg S a b) (hs : ∀ i, S i → w.heap.size ≤ i) : Chg NoB w b := h.trans k fun i hi => .inr (hs i hi)

/-! ### slices that are read -/
section rd
variable {α : Type} {w : World}

/-- v is a slice whose elements, each of size cells, are l. -/
def Rd (w : World) (size : Nat) (enc : α → List Value) (v : Value) (l : List α) : Prop :=
  ∃ a c, v = .slice a l.length c ∧ l.length ≤ c ∧ l.length ≤ maxLen ∧ (∀ i x, l[i]? = some x → ∃ b off, a = some ⟨b, off, none⟩ ∧ ∀ j u, (enc x)[j]? = some u → w.cell? ⟨b, off + i * size + j, none⟩ = some u)

def encI (x : Int) : List Value := [.int .i64 x]

theorem flatMap_get {size : Nat} {enc : α → List Value} (he : ∀ x, (enc x).length = size) {l : List α} {i : Nat} {x : α} (hi : l[i]? = some x) {j : Nat} {u : Value} (hu : (enc x)[j]? = some u) : (l.flatMap enc)[i * size + j]? = some u := by
  induction l generalizing i with
  | nil => simp at hi
  | cons y l ih =>
    have hj : j < size := by have := (List.getElem?_eq_some_iff.1 hu).1; rwa [he] at this
    rw [List.flatMap_cons]
    cases i with
    | zero =>
      simp at hi
      subst hi
      rw [List.getElem?_append_left (by rw [he]; omega)]
      simpa using hu
    | succ i =>
      rw [List.getElem?_append_right (by rw [he]; rw [Nat.add_mul]; omega), he]
      have e1 : (i + 1) * size + j - size = i * size + j := by rw [Nat.add_mul]; omega
      rw [e1]
      exact ih (by simpa using hi)

theorem Rd.of_own {base : Nat} {e : TypeId} {size : Nat} {enc : α → List Value} (he : ∀ x, (enc x).length = size) {v : Value} {l : List α} (h : w.ownsRow base e size v l.length (l.flatMap enc)) : Rd w size enc v l := by
  obtain ⟨h1, h2⟩ := h
  rcases h2 with ⟨rfl, h3⟩ | ⟨g, cap, cur, rfl, hb, hg, hn, hm, hs, ht⟩
  · have : l = [] := List.eq_nil_of_length_eq_zero h3
    subst this
    exact ⟨none, 0, rfl, Nat.le_refl _, by simp, fun i x hi => by simp at hi⟩
  · refine ⟨_, cap, rfl, hn, Nat.le_trans hn hm, fun i x hi => ⟨g, 0, rfl, fun j u hu => ?_⟩⟩
    have h4 := flatMap_get he hi hu
    rw [← ht] at h4
    rw [List.getElem?_take] at h4
    split at h4
    · rw [cell_blk hg, Nat.zero_add]; simpa using h4
    · cases h4

theorem flatMap_encI (l : List Int) : l.flatMap encI = l.map (Value.int .i64) := by induction l <;> simp_all [encI]
theorem Rd.ints_of {base : Nat} {e : TypeId} {v : Value} {l : List Int} (h : w.ownsRow base e 1 v l.length (l.map (Value.int .i64))) : Rd w 1 encI v l := by
  refine Rd.of_own (base := base) (e := e) (enc := encI) (fun _ => rfl) ?_
  rw [flatMap_encI]; exact h

/-- The element k of a slice of ints. -/
theorem Rd.int_at {a : Option Addr} {l : List Int} (h : ∀ i x, l[i]? = some x → ∃ b off, a = some ⟨b, off, none⟩ ∧ ∀ j u, (encI x)[j]? = some u → w.cell? ⟨b, off + i * 1 + j, none⟩ = some u) (k : Nat) (hk : k < l.length) :
    ∃ b off, a = some ⟨b, off, none⟩ ∧ w.cell? ⟨b, off + k, none⟩ = some (.int .i64 l[k]) := by
  obtain ⟨b, off, ha, h2⟩ := h k _ (List.getElem?_eq_getElem hk)
  exact ⟨b, off, ha, by simpa using h2 0 _ rfl⟩

/-- The cells of element k, in a later world. -/
theorem Rd.cells {α : Type} {w wr : World} {size : Nat} {enc : α → List Value} {a : Option Addr} {l : List α} (h : ∀ i x, l[i]? = some x → ∃ b off, a = some ⟨b, off, none⟩ ∧ ∀ j u, (enc x)[j]? = some u → w.cell? ⟨b, off + i * size + j, none⟩ = some u)
    (hc : Chg NoB w wr) (k : Nat) (hk : k < l.length) : ∃ b off, a = some ⟨b, off, none⟩ ∧ ∀ j u, (enc l[k])[j]? = some u → wr.cell? ⟨b, off + k * size + j, none⟩ = some u := by
  obtain ⟨b, off, ha, h2⟩ := h k _ (List.getElem?_eq_getElem hk)
  exact ⟨b, off, ha, fun j u hu => hc.cell (h2 j u hu) (fun e => e)⟩

theorem Rd.keep {size : Nat} {enc : α → List Value} {v : Value} {l : List α} {S : Nat → Prop} {w' : World} (h : Rd w size enc v l) (hc : Chg S w w') (hs : ∀ b off, (∃ n c, v = .slice (some ⟨b, off, none⟩) n c) → ¬ S b) : Rd w' size enc v l := by
  obtain ⟨a, c, hv, h1, h2, h3⟩ := h
  refine ⟨a, c, hv, h1, h2, fun i x hi => ?_⟩
  obtain ⟨b, off, ha, h4⟩ := h3 i x hi
  exact ⟨b, off, ha, fun j u hu => hc.cell (h4 j u hu) (hs b off ⟨_, _, by rw [hv, ha]⟩)⟩
end rd

/-! ### append, and where its result lies -/
section app
variable {P : Program} {w : World} {ops : Array Oper} {rest : List Oper} {o : Oper} {a : Act} {Q : Exit → Act → World → Prop}

theorem run_app {t e : TypeId} {z : Value} {size bytes : Nat} (T : SlT P t e z size bytes) (ty : TypeId) {base n : Nat} {v : Value} {xs : List Value} (hown : w.ownsRow base e size v n xs)
    (ad : Addr) (m c : Nat) (news : List Value) (hl : news.length = m * size) (hnews : ∀ j u, news[j]? = some u → w.cell? (ad.add j) = some u) (h1 : ∀ u ∈ news, u.oneCell' = true)
    (hn : (n + m) * bytes ≤ 140737488355328) (hn2 : n + m ≤ maxLen) (hbase : base ≤ w.heap.size) :
    ∃ v' w', (Builtin.append_ #[t, t] ty #[v, .slice (some ad) m c]).run P w = .ok v' w' ∧ w'.ownsRow base e size v' (n + m) (xs ++ news) ∧ Chg (OwnB v) w w' ∧ (∀ i, OwnB v' i → OwnB v i ∨ w.heap.size ≤ i) ∧ (v' = .slice none 0 0 ↔ v = .slice none 0 0 ∧ m = 0) := by
  obtain ⟨i, hi, hz0, hz1, hz2⟩ := info_parts T.inf
  obtain ⟨v', w', hr, h2, h3, h4⟩ := run_append_own (P := P) w base t ty e i z size bytes T.und hi hz0 hz1 hz2 T.zs T.pos v n xs hown ad m c news hl hnews h1 hn2 hn hbase
  refine ⟨v', w', hr, h2, Chg.of_grown h3 fun k hk => .inl hk, ?_, h4⟩
  subst hz1
  subst hz2
  rcases hown.2 with ⟨rfl, rfl⟩ | ⟨g, cap, cur, rfl, hbg, hg, hnc, hcm, hcs, htake⟩
  · by_cases hm : m = 0
    · subst hm
      have := h4.2 ⟨rfl, rfl⟩
      subst this
      intro k hk
      exact .inl hk
    · have hr2 := run_append_nil (P := P) w t ty e i z T.und hi hz0 ad m c news hl hnews (by omega) (by unfold maxLen at hn2; omega) (by have hb := hn; simp only [Nat.zero_add] at hb; omega)
      rw [hr] at hr2
      injection hr2 with e1 _
      subst e1
      intro k hk
      simp [OwnB, Value.ownBlock] at hk
      exact .inr (by omega)
  · by_cases hroom : n + m ≤ cap
    · have hfit : n * i.size + news.length ≤ cur.size := by rw [hl, hcs, ← Nat.add_mul]; exact Nat.mul_le_mul_right _ hroom
      have hr2 := run_append_room (P := P) w t ty e i T.und hi g n cap cur hg ad m c news hl hnews h1 hroom hfit
      rw [hr] at hr2
      injection hr2 with e1 _
      subst e1
      intro k hk
      exact .inl hk
    · have holds : ∀ j u, xs[j]? = some u → w.cell? ((⟨g, 0, none⟩ : Addr).add j) = some u := hown.cells (g := g) rfl
      have hr2 := run_append_grow (P := P) w t ty e i z T.und hi hz0 ⟨g, 0, none⟩ n cap xs hown.1 holds ad m c news hl hnews (by omega) (by unfold maxLen at hn2; omega) (growslice_fits (by omega) hn)
      rw [hr] at hr2
      injection hr2 with e1 _
      subst e1
      intro k hk
      simp [OwnB, Value.ownBlock] at hk
      exact .inr (by omega)

/-- append of the m elements that lie at ad. -/
theorem step_app {t e : TypeId} {z : Value} {size bytes : Nat} (T : SlT P t e z size bytes) (hg : o.guard = none) (s x : Operand) (hop : o.op = .call { callee := .builtin .append, args := #[s, x], argTypes := #[t, t] })
    {base n : Nat} {v : Value} {xs : List Value} (hown : w.ownsRow base e size v n xs) (hs : a.eval s = v)
    (ad : Addr) (m c : Nat) (news : List Value) (hx : a.eval x = .slice (some ad) m c) (hl : news.length = m * size) (hnews : ∀ j u, news[j]? = some u → w.cell? (ad.add j) = some u) (h1 : ∀ u ∈ news, u.oneCell' = true)
    (hn : (n + m) * bytes ≤ 140737488355328) (hn2 : n + m ≤ maxLen) (hbase : base ≤ w.heap.size)
    (hK : ∀ v' w', w'.ownsRow base e size v' (n + m) (xs ++ news) → Chg (OwnB v) w w' → (∀ i, OwnB v' i → OwnB v i ∨ w.heap.size ≤ i) → (v' = .slice none 0 0 ↔ v = .slice none 0 0 ∧ m = 0) → wpList P ops Q rest (a.put o.dst v') w') : wpList P ops Q (o :: rest) a w := by
  obtain ⟨v', w', hr, h2, h3, h4, h5⟩ := run_app T o.type hown ad m c news hl hnews h1 hn hn2 hbase
  refine step_run (wanted_none hg) ?_ (hK v' w' h2 h3 h4 h5)
  simp [execOp, hop, resolve, invoke, builtin, hs, hx, hr, Result.andThen]

/-- append of one element, just laid into the block b. -/
theorem step_app1 {t e : TypeId} {z : Value} {size bytes : Nat} (T : SlT P t e z size bytes) (hg : o.guard = none) (s x : Operand) (hop : o.op = .call { callee := .builtin .append, args := #[s, x], argTypes := #[t, t] })
    {base n : Nat} {v : Value} {xs : List Value} (hown : w.ownsRow base e size v n xs) (hs : a.eval s = v) (b : Nat) (cs : List Value) (hx : a.eval x = .slice (some ⟨b, 0, none⟩) 1 1)
    {c : Array Value} {e' : TypeId} {f : Nat × Nat} (hb : w.heap[b]? = some (.cells c e' f)) (hc : c = cs.toArray) (hl : cs.length = size) (h1 : ∀ u ∈ cs, u.oneCell' = true)
    (hn : (n + 1) * bytes ≤ 140737488355328) (hn2 : n + 1 ≤ maxLen) (hbase : base ≤ w.heap.size)
    (hK : ∀ v' w', w'.ownsRow base e size v' (n + 1) (xs ++ cs) → Chg (OwnB v) w w' → (∀ i, OwnB v' i → OwnB v i ∨ w.heap.size ≤ i) → v' ≠ .slice none 0 0 → wpList P ops Q rest (a.put o.dst v') w') : wpList P ops Q (o :: rest) a w := by
  subst hc
  refine step_app T hg s x hop hown hs ⟨b, 0, none⟩ 1 1 cs hx (by omega) (fun j u hu => ?_) h1 hn hn2 hbase fun v' w' h2 h3 h4 h5 => hK v' w' h2 h3 h4 (fun e => by simpa using h5.1 e)
  have e1 : (⟨b, 0, none⟩ : Addr).add j = ⟨b, j, none⟩ := by unfold Addr.add; split <;> simp_all
  rw [e1, cell_blk hb]
  simpa using hu
end app

end Go.Proofs.Ytghklbflbodajaa

namespace Go.Proofs.Ytghklbflbodajaa
open Go.RowKit Go.ChangeMaps Go.MapKept
set_option linter.unusedVariables false
set_option linter.unusedSimpArgs false
set_option linter.unnecessarySimpa false

/-- What the form reads at type t is some y with R y cs. -/
def Opens {α : Type} (P : Program) (w : World) (t : TypeId) (R : α → List Value → Prop) : Prop :=
  ∀ {H : Type} (enc : TypeId × Value → H) (held : Bool) (fuel : Nat) (cs : List Value) (x : DataW H × List MemPlace), DataW.trod enc P w 0 (fun _ => true) held fuel t cs = some x → ∃ y, R y cs

/-- v is a slice whose elements, each of size cells, stand in relation R to l. -/
def RdR {α : Type} (w : World) (size : Nat) (R : α → List Value → Prop) (v : Value) (l : List α) : Prop :=
  ∃ a c, v = .slice a l.length c ∧ l.length ≤ c ∧ l.length ≤ maxLen ∧ (∀ i x, l[i]? = some x → ∃ cs b off, R x cs ∧ cs.length = size ∧ a = some ⟨b, off, none⟩ ∧ ∀ j u, cs[j]? = some u → w.cell? ⟨b, off + i * size + j, none⟩ = some u)

section
variable {P : Program} {w : World} {t e : TypeId}

theorem opens_int {k : IntKind} (ht : P.underlying t = some (.int k)) : Opens P w t (fun (n : Int) cs => cs = [.int k n] ∧ (Lit.int k n).wf = true) := by
  intro H enc held fuel cs x h
  obtain ⟨n, h1, _, h2⟩ := DataW.trod_int ht h
  exact ⟨n, h1, h2⟩

theorem opens_string (ht : P.underlying t = some .string) : Opens P w t (fun (s : ByteArray) cs => cs = [.string s] ∧ s.size ≤ maxLen) := by
  intro H enc held fuel cs x h
  obtain ⟨n, h1, _, h2⟩ := DataW.trod_string ht h
  exact ⟨n, h1, h2⟩

theorem cells_get {base : Nat} {a : Addr} {n : Nat} {cs : List Value} (h : w.cells? base a n = some cs) : cs.length = n ∧ ∀ j u, cs[j]? = some u → w.cell? (a.add j) = some u := by
  unfold World.cells? at h
  split at h
  · have hl := mapM_some_length h
    refine ⟨by simpa using hl, fun j u hu => ?_⟩
    have hj := (List.getElem?_eq_some_iff.1 hu).1
    have := mapM_some_get h j j (by rw [List.getElem?_range (by simp at hl; omega)])
    rw [this, hu]
  · cases h

theorem list_of {α : Type} {p : Nat → α → Prop} (n : Nat) (h : ∀ i, i < n → ∃ y, p i y) : ∃ l : List α, l.length = n ∧ ∀ i y, l[i]? = some y → p i y := by
  induction n with
  | zero => exact ⟨[], rfl, fun i y hi => by simp at hi⟩
  | succ n ih =>
    obtain ⟨l, hl, hp⟩ := ih fun i hi => h i (by omega)
    obtain ⟨y, hy⟩ := h n (by omega)
    refine ⟨l ++ [y], by simp [hl], fun i z hi => ?_⟩
    by_cases hin : i < n
    · rw [List.getElem?_append_left (by omega)] at hi
      exact hp i z hi
    · have hlt := (List.getElem?_eq_some_iff.1 hi).1
      simp [hl] at hlt
      obtain rfl : i = n := by omega
      rw [List.getElem?_append_right (by omega)] at hi
      simp [hl] at hi
      subst hi
      exact hy

theorem opens_slice {α : Type} {R : α → List Value → Prop} {size : Nat} (ht : P.underlying t = some (.slice e)) (hc : P.cellsOf e = size) (hpos : 0 < size) (he : Opens P w e R) :
    Opens P w t (fun (l : List α) cs => ∃ v, cs = [v] ∧ RdR w size R v l) := by
  intro H enc held fuel cs x h
  rcases Deep.open_slice ht h with ⟨rfl, _⟩ | ⟨a, len, cap, m, n, D, Pl, rfl, hb, hl, hm, hmm, _, hel⟩
  · exact ⟨[], _, rfl, none, 0, rfl, Nat.le_refl _, by simp, fun i x hi => by simp at hi⟩
  · have hmc : m = cap := hmm
    rw [hc] at hel
    obtain ⟨l, hll, hp⟩ := list_of (p := fun i y => ∃ cs', R y cs' ∧ w.cells? 0 (a.add (i * size)) size = some cs') len fun i hi => by
      obtain ⟨cs', h1, h2⟩ := hel i (by omega)
      obtain ⟨y, hy⟩ := he enc held n cs' _ h2
      exact ⟨y, cs', hy, h1⟩
    refine ⟨l, _, rfl, some a, cap, by rw [hll], by omega, by omega, fun i y hi => ?_⟩
    obtain ⟨cs', h1, h2⟩ := hp i y hi
    obtain ⟨h3, h4⟩ := cells_get h2
    have hsp : a.spot = none := by
      have hi0 : 0 < l.length := by have := (List.getElem?_eq_some_iff.1 hi).1; omega
      obtain ⟨cs0, _, g2⟩ := hp 0 _ (List.getElem?_eq_getElem hi0)
      obtain ⟨g3, g4⟩ := cells_get g2
      have g5 := g4 0 _ (List.getElem?_eq_getElem (by omega))
      have ea : (a.add (0 * size)).add 0 = a := by simp [Addr.add]
      rw [ea] at g5
      unfold World.cell? at g5
      split at g5
      · cases hs : a.spot with
        | none => rfl
        | some _ => simp [hs] at g5
      · cases g5
    refine ⟨cs', a.block, a.off, h1, h3, by cases a; simp at hsp; simp [hsp], fun j u hu => ?_⟩
    have h5 := h4 j u hu
    have ea : (a.add (i * size)).add j = ⟨a.block, a.off + i * size + j, none⟩ := by
      obtain ⟨ab, ao, asp⟩ := a
      simp at hsp
      subst hsp
      simp only [Addr.add]
      split <;> split <;> simp_all
    rwa [ea] at h5

/-- A field of a struct. -/
theorem fld {H : Type} {xs : List (DataW H × List MemPlace)} {m i : Nat} {r : Option (DataW H × List MemPlace)} (hx : xs.length = m) (hi : i < m) (h : r = xs[i]?) : ∃ y, r = some y := ⟨xs[i], by rw [h, List.getElem?_eq_getElem]⟩

theorem RdR.rd {α : Type} {size : Nat} {enc : α → List Value} {v : Value} {l : List α} (h : RdR w size (fun x cs => cs = enc x) v l) : Rd w size enc v l := by
  obtain ⟨a, c, h1, h2, h3, h4⟩ := h
  exact ⟨a, c, h1, h2, h3, fun i x hi => by obtain ⟨cs, b, off, rfl, _, ha, hc⟩ := h4 i x hi; exact ⟨b, off, ha, hc⟩⟩
end
end Go.Proofs.Ytghklbflbodajaa

namespace Go.Proofs.Ytghklbflbodajaa
open Go.RowKit Go.ChangeMaps
set_option linter.unusedVariables false
set_option linter.unusedSimpArgs false
set_option linter.unnecessarySimpa false

/-- The integers fit. -/
def fits (x : Int) : Prop := -9223372036854775808 ≤ x ∧ x < 9223372036854775808
theorem fits_of {x : Int} (h : (Lit.int .i64 x).wf = true) : fits x := by
  simp [Lit.wf, IntKind.min, IntKind.max, IntKind.signed, IntKind.bits] at h
  unfold fits
  omega

/-- A record of the log. -/
structure Rec where
  kind : Int
  txn : Int
  page : Int
  off : Int
  prev : Int
  next : Int
  beg : Int
  before : ByteArray
  after : ByteArray
  txns : List (Int × Int × Int)
  pages : List (Int × Int)
deriving DecidableEq
/-- A record, and where it stands. -/
structure Ent where
  at_ : Int
  r : Rec

def encTx (x : Int × Int × Int) : List Value := [.int .i64 x.1, .int .i64 x.2.1, .int .i64 x.2.2]
def encPg (x : Int × Int) : List Value := [.int .i64 x.1, .int .i64 x.2]

/-- The cells of a record. -/
def Rec.cs (r : Rec) (v1 v2 : Value) : List Value := [.int .i64 r.kind, .int .i64 r.txn, .int .i64 r.page, .int .i64 r.off, .int .i64 r.prev, .int .i64 r.next, .int .i64 r.beg, .string r.before, .string r.after, v1, v2]
/-- Its value. -/
def Rec.val (r : Rec) (v1 v2 : Value) : Value := .agg #[.int .i64 r.kind, .int .i64 r.txn, .int .i64 r.page, .int .i64 r.off, .int .i64 r.prev, .int .i64 r.next, .int .i64 r.beg, .string r.before, .string r.after, v1, v2]

/-- Its numbers fit; its texts are not too long. -/
def Rec.ok (r : Rec) : Prop :=
  fits r.kind ∧ fits r.txn ∧ fits r.page ∧ fits r.off ∧ fits r.prev ∧ fits r.next ∧ fits r.beg ∧ r.before.size ≤ maxLen ∧ r.after.size ≤ maxLen ∧ (∀ x ∈ r.txns, fits x.1) ∧ (∀ x ∈ r.pages, fits x.1)

/-- The two tables of a record. -/
def Tabs (w : World) (r : Rec) (v1 v2 : Value) : Prop := Rd w 3 encTx v1 r.txns ∧ Rd w 2 encPg v2 r.pages

def RecAt (w : World) (r : Rec) (cs : List Value) : Prop := ∃ v1 v2, cs = r.cs v1 v2 ∧ Tabs w r v1 v2 ∧ r.ok
def EntAt (w : World) (x : Ent) (cs : List Value) : Prop := ∃ v1 v2, cs = .int .i64 x.at_ :: x.r.cs v1 v2 ∧ Tabs w x.r v1 v2 ∧ x.r.ok ∧ fits x.at_

theorem RdR.mono {α : Type} {w w' : World} {size : Nat} {R R' : α → List Value → Prop} {v : Value} {l : List α} (h : RdR w size R v l) (hc : Chg NoB w w') (hr : ∀ x cs, R x cs → R' x cs) : RdR w' size R' v l := by
  obtain ⟨a, c, h1, h2, h3, h4⟩ := h
  refine ⟨a, c, h1, h2, h3, fun i x hi => ?_⟩
  obtain ⟨cs, b, off, h5, h6, h7, h8⟩ := h4 i x hi
  exact ⟨cs, b, off, hr _ _ h5, h6, h7, fun j u hu => hc.cell (h8 j u hu) (fun e => e)⟩
theorem Rd.mono {α : Type} {w w' : World} {size : Nat} {enc : α → List Value} {v : Value} {l : List α} (h : Rd w size enc v l) (hc : Chg NoB w w') : Rd w' size enc v l :=
  h.keep hc (fun _ _ _ e => e)
theorem Tabs.mono {w w' : World} {r : Rec} {v1 v2 : Value} (h : Tabs w r v1 v2) (hc : Chg NoB w w') : Tabs w' r v1 v2 := ⟨h.1.mono hc, h.2.mono hc⟩
theorem EntAt.mono {w w' : World} {x : Ent} {cs : List Value} (h : EntAt w x cs) (hc : Chg NoB w w') : EntAt w' x cs := by
  obtain ⟨v1, v2, h1, h2, h3⟩ := h; exact ⟨v1, v2, h1, h2.mono hc, h3⟩

/-- A list of entries. -/
def Ents (w : World) (v : Value) (l : List Ent) : Prop := RdR w 12 (EntAt w) v l
theorem Ents.mono {w w' : World} {v : Value} {l : List Ent} (h : Ents w v l) (hc : Chg NoB w w') : Ents w' v l := RdR.mono h hc fun _ _ h => h.mono hc

theorem opens_rows {w : World} {α : Type} {t : TypeId} {enc : α → List Value} (h : Opens Try.prog w t (fun (x : α) cs => cs = enc x)) : Opens Try.prog w t (fun (x : α) cs => cs = enc x) := h

theorem RdR.rd' {α : Type} {w : World} {size : Nat} {enc : α → List Value} {p : α → Prop} {v : Value} {l : List α} (h : RdR w size (fun x cs => cs = enc x ∧ p x) v l) : Rd w size enc v l ∧ ∀ x ∈ l, p x := by
  obtain ⟨a, c, h1, h2, h3, h4⟩ := h
  refine ⟨⟨a, c, h1, h2, h3, fun i x hi => by obtain ⟨cs, b, off, ⟨rfl, _⟩, _, ha, hc⟩ := h4 i x hi; exact ⟨b, off, ha, hc⟩⟩, fun x hx => ?_⟩
  obtain ⟨i, hi⟩ := List.getElem?_of_mem hx
  obtain ⟨cs, b, off, ⟨_, h5⟩, _⟩ := h4 i x hi
  exact h5

set_option maxRecDepth 100000 in
theorem opens_txn (w : World) : Opens Try.prog w 104 (fun (x : Int × Int × Int) cs => cs = encTx x ∧ fits x.1) := by
  intro H enc held fuel cs y h
  obtain ⟨xs, n, rfl, _, hl, hx, hf⟩ := DataW.trod_struct Try.underlying104 h
  have c4 : Try.prog.cellsOf 104 = 3 := by kernel_rfl
  have c1 : Try.prog.cellsOf 3 = 1 := by kernel_rfl
  rw [c4] at hl
  match cs, hl with
  | [x0, x1, x2], _ =>
    have f0 := hf 0 _ rfl
    have f1 := hf 1 _ rfl
    have f2 := hf 2 _ rfl
    obtain ⟨y0, g0⟩ := fld (m := 3) hx (by omega) f0
    obtain ⟨y1, g1⟩ := fld (m := 3) hx (by omega) f1
    obtain ⟨y2, g2⟩ := fld (m := 3) hx (by omega) f2
    obtain ⟨n0, e0, k0⟩ := opens_int (w := w) Try.underlying3 _ _ _ _ _ g0
    obtain ⟨n1, e1, _⟩ := opens_int (w := w) Try.underlying3 _ _ _ _ _ g1
    obtain ⟨n2, e2, _⟩ := opens_int (w := w) Try.underlying3 _ _ _ _ _ g2
    simp [c1] at e0 e1 e2
    subst e0 e1 e2
    exact ⟨⟨n0, n1, n2⟩, rfl, fits_of k0⟩

set_option maxRecDepth 100000 in
theorem opens_page (w : World) : Opens Try.prog w 131 (fun (x : Int × Int) cs => cs = encPg x ∧ fits x.1) := by
  intro H enc held fuel cs y h
  obtain ⟨xs, n, rfl, _, hl, hx, hf⟩ := DataW.trod_struct Try.underlying131 h
  have c4 : Try.prog.cellsOf 131 = 2 := by kernel_rfl
  have c1 : Try.prog.cellsOf 3 = 1 := by kernel_rfl
  rw [c4] at hl
  match cs, hl with
  | [x0, x1], _ =>
    have f0 := hf 0 _ rfl
    have f1 := hf 1 _ rfl
    obtain ⟨y0, g0⟩ := fld (m := 2) hx (by omega) f0
    obtain ⟨y1, g1⟩ := fld (m := 2) hx (by omega) f1
    obtain ⟨n0, e0, k0⟩ := opens_int (w := w) Try.underlying3 _ _ _ _ _ g0
    obtain ⟨n1, e1, _⟩ := opens_int (w := w) Try.underlying3 _ _ _ _ _ g1
    simp [c1] at e0 e1
    subst e0 e1
    exact ⟨⟨n0, n1⟩, rfl, fits_of k0⟩

set_option maxRecDepth 100000 in
theorem opens_rec (w : World) : Opens Try.prog w 78 (RecAt w) := by
  intro H enc held fuel cs y h
  obtain ⟨xs, n, rfl, _, hl, hx, hf⟩ := DataW.trod_struct Try.underlying78 h
  have c4 : Try.prog.cellsOf 78 = 11 := by kernel_rfl
  have c1 : Try.prog.cellsOf 3 = 1 := by kernel_rfl
  have c2 : Try.prog.cellsOf 9 = 1 := by kernel_rfl
  have c5 : Try.prog.cellsOf 75 = 1 := by kernel_rfl
  have c6 : Try.prog.cellsOf 76 = 1 := by kernel_rfl
  rw [c4] at hl
  match cs, hl with
  | [x0, x1, x2, x3, x4, x5, x6, x7, x8, x9, x10], _ =>
    have f0 := hf 0 _ rfl
    have f1 := hf 1 _ rfl
    have f2 := hf 2 _ rfl
    have f3 := hf 3 _ rfl
    have f4 := hf 4 _ rfl
    have f5 := hf 5 _ rfl
    have f6 := hf 6 _ rfl
    have f7 := hf 7 _ rfl
    have f8 := hf 8 _ rfl
    have f9 := hf 9 _ rfl
    have f10 := hf 10 _ rfl
    obtain ⟨y0, g0⟩ := fld (m := 11) hx (by omega) f0
    obtain ⟨y1, g1⟩ := fld (m := 11) hx (by omega) f1
    obtain ⟨y2, g2⟩ := fld (m := 11) hx (by omega) f2
    obtain ⟨y3, g3⟩ := fld (m := 11) hx (by omega) f3
    obtain ⟨y4, g4⟩ := fld (m := 11) hx (by omega) f4
    obtain ⟨y5, g5⟩ := fld (m := 11) hx (by omega) f5
    obtain ⟨y6, g6⟩ := fld (m := 11) hx (by omega) f6
    obtain ⟨y7, g7⟩ := fld (m := 11) hx (by omega) f7
    obtain ⟨y8, g8⟩ := fld (m := 11) hx (by omega) f8
    obtain ⟨y9, g9⟩ := fld (m := 11) hx (by omega) f9
    obtain ⟨y10, g10⟩ := fld (m := 11) hx (by omega) f10
    obtain ⟨n0, e0, k0⟩ := opens_int (w := w) Try.underlying3 _ _ _ _ _ g0
    obtain ⟨n1, e1, k1⟩ := opens_int (w := w) Try.underlying3 _ _ _ _ _ g1
    obtain ⟨n2, e2, k2⟩ := opens_int (w := w) Try.underlying3 _ _ _ _ _ g2
    obtain ⟨n3, e3, k3⟩ := opens_int (w := w) Try.underlying3 _ _ _ _ _ g3
    obtain ⟨n4, e4, k4⟩ := opens_int (w := w) Try.underlying3 _ _ _ _ _ g4
    obtain ⟨n5, e5, k5⟩ := opens_int (w := w) Try.underlying3 _ _ _ _ _ g5
    obtain ⟨n6, e6, k6⟩ := opens_int (w := w) Try.underlying3 _ _ _ _ _ g6
    obtain ⟨n7, e7, k7⟩ := opens_string (w := w) Try.underlying9 _ _ _ _ _ g7
    obtain ⟨n8, e8, k8⟩ := opens_string (w := w) Try.underlying9 _ _ _ _ _ g8
    obtain ⟨n9, ⟨v9, e9, k9⟩⟩ := opens_slice (size := 3) Try.underlying75 (by kernel_rfl) (by decide) (opens_txn w) _ _ _ _ _ g9
    obtain ⟨n10, ⟨v10, e10, k10⟩⟩ := opens_slice (size := 2) Try.underlying76 (by kernel_rfl) (by decide) (opens_page w) _ _ _ _ _ g10
    simp [c1, c2, c5, c6] at e0 e1 e2 e3 e4 e5 e6 e7 e8 e9 e10
    subst e0 e1 e2 e3 e4 e5 e6 e7 e8 e9 e10
    exact ⟨⟨n0, n1, n2, n3, n4, n5, n6, n7, n8, n9, n10⟩, _, _, rfl, ⟨k9.rd'.1, k10.rd'.1⟩, fits_of k0, fits_of k1, fits_of k2, fits_of k3, fits_of k4, fits_of k5, fits_of k6, k7, k8, k9.rd'.2, k10.rd'.2⟩

set_option maxRecDepth 100000 in
theorem opens_ent (w : World) : Opens Try.prog w 80 (EntAt w) := by
  intro H enc held fuel cs y h
  obtain ⟨xs, n, rfl, _, hl, hx, hf⟩ := DataW.trod_struct Try.underlying80 h
  have c4 : Try.prog.cellsOf 80 = 12 := by kernel_rfl
  have c1 : Try.prog.cellsOf 3 = 1 := by kernel_rfl
  have c2 : Try.prog.cellsOf 78 = 11 := by kernel_rfl
  rw [c4] at hl
  match cs, hl with
  | [x0, x1, x2, x3, x4, x5, x6, x7, x8, x9, x10, x11], _ =>
    have f0 := hf 0 _ rfl
    have f1 := hf 1 _ rfl
    obtain ⟨y0, g0⟩ := fld (m := 2) hx (by omega) f0
    obtain ⟨y1, g1⟩ := fld (m := 2) hx (by omega) f1
    obtain ⟨n0, e0, k0⟩ := opens_int (w := w) Try.underlying3 _ _ _ _ _ g0
    obtain ⟨r, ⟨v1, v2, e1, k1⟩⟩ := opens_rec w _ _ _ _ _ g1
    simp [c1, c2] at e0 e1
    subst e0
    exact ⟨⟨n0, r⟩, v1, v2, by rw [e1], k1.1, k1.2, fits_of k0⟩

set_option maxRecDepth 100000 in
theorem opens_ents (w : World) : Opens Try.prog w 54 (fun (l : List Ent) cs => ∃ v, cs = [v] ∧ Ents w v l) :=
  opens_slice (size := 12) Try.underlying54 (by kernel_rfl) (by decide) (opens_ent w)
end Go.Proofs.Ytghklbflbodajaa

namespace Go.Proofs.Ytghklbflbodajaa
open Go.RowKit Go.ChangeMaps Go.MapKept
set_option linter.unusedVariables false
set_option linter.unusedSimpArgs false
set_option linter.unnecessarySimpa false

theorem nob {k : Nat} : ¬ NoB k := fun e => e
/-- A region of reads, whose last operations wait for all others. -/
theorem wp_region_tail {P : Program} {id : Nat} {Q : Exit → Act → World → Prop} {a : Act} {w : World} {l : List Oper} (n : Nat) (hm : P.follows .mixedOrders = true) (hB : Region.lexTailB .any l.toArray n = true)
    (h : wpStill P l.toArray w.drew (fun a' => wpList P l.toArray Q (l.drop n) a' w.drew) (l.take n) a) : (Code.region id l.toArray true).wp P Q a w :=
  wp_region_still_tail n hm hB h
/-- A region of reads. -/
theorem wp_region_reads {P : Program} {id : Nat} {Q : Exit → Act → World → Prop} {a : Act} {w : World} {l : List Oper} (hm : P.follows .mixedOrders = true) (hB : Region.lexB .any l.toArray = true)
    (h : wpStill P l.toArray w.drew (fun a' => Q .normal a' w.drew) l a) : (Code.region id l.toArray true).wp P Q a w :=
  wp_region_still_lit hm hB h

/-- The world at hand, by what is known of it. -/
theorem wp_gen {P : Program} {C : Code} {Q : Exit → Act → World → Prop} {a : Act} {w : World} (R : World → Prop) (hR : R w) (h : ∀ W, R W → C.wp P Q a W) : C.wp P Q a w := h w hR
theorem wpList_gen {P : Program} {ops : Array Oper} {l : List Oper} {Q : Exit → Act → World → Prop} {a : Act} {w : World} (R : World → Prop) (hR : R w) (h : ∀ W, R W → wpList P ops Q l a W) : wpList P ops Q l a w := h w hR

theorem sameC {W w' : World} (h : Chg NoB W w') : ∀ p, (W.cell? p).isSome = true → w'.cell? p = W.cell? p := fun p hp => by
  obtain ⟨v, hv⟩ := Option.isSome_iff_exists.1 hp
  rw [hv, h.cell hv nob]
theorem keepX {W w' : World} {S : World → Prop} (hs : Hid (∀ w', Chg NoB W w' → S w')) (h : Chg NoB W w') : (∀ p, (W.cell? p).isSome = true → w'.cell? p = W.cell? p) ∧ S w' := ⟨sameC h, hs.out w' h⟩
/-- A look-up, in whatever world that has the map. -/
theorem look_any {P : Program} {t kt et : TypeId} (ht : P.underlying t = some (.map kt et)) (hk : P.underlying kt = some (.int .i64)) {ν : Type} {V : ν → Value} {W : World} {r : Nat} {m : List (Int × ν)} (h : MapI W r V m) {z : Value}
    (hz : ∀ w, (zeroValue et).run P w = .ok z w) (k : Int) (ok : Bool) {res : Value} (hr : res = if ok then .tuple #[((mget m k).map V).getD z, .bool (mget m k).isSome] else ((mget m k).map V).getD z) :
    Hid (∀ w', Chg NoB W w' → (Instr.lookup t (.map (some r)) (.int .i64 k) ok).run P w' = .ok res w') := hid (fun w' hw => by
  rw [hr]
  exact (h.chg hw nob).lookup ht hk (hz w') k ok)

theorem MapI.drew {ν : Type} {V : ν → Value} {w : World} {r : Nat} {m : List (Int × ν)} (h : MapI w r V m) : MapI w.drew r V m := h.keep rfl
end Go.Proofs.Ytghklbflbodajaa

namespace Go.Proofs.Ytghklbflbodajaa
open Go.RowKit Go.ChangeMaps
set_option linter.unusedVariables false
set_option linter.unusedSimpArgs false
set_option linter.unnecessarySimpa false

theorem Chg.setRow {S : Nat → Prop} {a w : World} (h : Chg S a w) {g : Nat} (hp : S g ∨ a.heap.size ≤ g) (cs : Array Value) : Chg S a (w.setRow g cs) :=
  h.trans (T := OneB g) ⟨rfl, rfl, rfl, by simp, fun k _ hk => setRow_other _ _ _ _ hk⟩ fun i hi => by cases hi; exact hp

theorem step_storeRow {P : Program} {ops : Array Oper} {rest : List Oper} {o : Oper} {a : Act} {w : World} {Q : Exit → Act → World → Prop} (hgd : o.guard = none) {ty : TypeId} {x y : Operand} (ho : o.op = .store ty x y)
    (g : Nat) {cells : Array Value} (hx : a.eval x = .pointer (some ⟨g, 0, none⟩)) (hy : a.eval y = .agg cells)
    {t : TypeId} {old : Array Value} (hg : w.heap[g]? = some (.cells old t (0, 0))) (hi : (P.info? ty).map (·.size) = some cells.size)
    (hold : old.size = cells.size) (h1 : cells.all (·.oneCell') = true)
    (hK : ∀ w', w'.heap[g]? = some (.cells cells t (0, 0)) → Chg (OneB g) w w' → w'.heap.size = w.heap.size → wpList P ops Q rest (a.put o.dst undef) w') : wpList P ops Q (o :: rest) a w :=
  wpList_store_row hgd ty x y ho g cells hx hy t old hg hi hold h1 (hK _ (setRow_heap w g old cells t _ hg) ((Chg.refl (OneB g) w).setRow (.inl (OneB.self g)) _) (by simp))

theorem step_loadRow {P : Program} {ops : Array Oper} {rest : List Oper} {o : Oper} {a : Act} {w : World} {Q : Exit → Act → World → Prop} (hgd : o.guard = none) {ty : TypeId} {x : Operand} (ho : o.op = .load ty x)
    (g : Nat) (hx : a.eval x = .pointer (some ⟨g, 0, none⟩)) {t : TypeId} {cs : Array Value} {fr : Nat × Nat} {fs : Array Field} (hg : w.heap[g]? = some (.cells cs t fr))
    (hu : P.underlying ty = some (.struct fs)) (hi : (P.info? ty).map (·.size) = some cs.size)
    (h : wpList P ops Q rest (a.put o.dst (.agg cs)) w) : wpList P ops Q (o :: rest) a w :=
  wpList_load_row hgd ty x ho g hx t cs fr _ hg hu rfl hi h

/-- A result that lies in a block of its own, a struct; and one in a slot. -/
theorem res_row2 {P : Program} {fn : Func} {p u : Tmp} {ty : TypeId} {fs : Array Field} (hu : P.underlying ty = some (.struct fs)) (h : fn.results = #[.cell p ty, .tmp u]) (tmps : Array Value) (w : World) (g : Nat) {t : TypeId} {cs : Array Value} {fr : Nat × Nat}
    (hp : tmps.getD p undef = .pointer (some ⟨g, 0, none⟩)) (hg : w.heap[g]? = some (.cells cs t fr)) (hi : (P.info? ty).map (·.size) = some cs.size) :
    (results fn tmps).run P w = .ok (.tuple #[.agg cs, tmps.getD u undef]) w := by
  rw [results_cell_tmp h]
  rw [hp]
  simp [asAddr, run_loadVar_row w g t ty cs fr _ hg hu rfl hi, Result.andThen]

/-- .. no struct. -/
theorem run_loadVar_cell {P : Program} {ty : TypeId} {d : TypeDesc} (hu : P.underlying ty = some d) (hd : (match d with | .struct _ | .array _ _ => true | _ => false) = false) {w : World} {p : Addr} {v : Value} (hg : w.cell? p = some v) :
    (loadVar ty p).run P w = .ok v w := by
  have hagg : (isAgg ty).run P w = .ok false w := by
    unfold isAgg
    rw [Sem.run_bind, run_underlying hu w]
    cases d <;> simp_all
  simp only [loadVar, Sem.run_bind, hagg, Result.andThen_ok, if_false, Bool.false_eq_true]
  rw [run_load, hg]
theorem res_cell2 {P : Program} {fn : Func} {p u : Tmp} {ty : TypeId} {d : TypeDesc} (hu : P.underlying ty = some d) (hd : (match d with | .struct _ | .array _ _ => true | _ => false) = false) (h : fn.results = #[.cell p ty, .tmp u]) (tmps : Array Value) (w : World) (g : Nat) {v : Value}
    (hp : tmps.getD p undef = .pointer (some ⟨g, 0, none⟩)) (hg : w.cell? ⟨g, 0, none⟩ = some v) :
    (results fn tmps).run P w = .ok (.tuple #[v, tmps.getD u undef]) w := by
  rw [results_cell_tmp h]
  rw [hp]
  simp [asAddr, run_loadVar_cell hu hd hg, Result.andThen]

theorem ownsForm {w : World} {B : Nat} {e : TypeId} {size : Nat} {v : Value} {n : Nat} {xs : List Value} (h : w.ownsRow B e size v n xs) : ∃ ao c, v = .slice ao n c := by
  rcases h.2 with ⟨rfl, rfl⟩ | ⟨g, cap, cur, rfl, _⟩
  · exact ⟨_, _, rfl⟩
  · exact ⟨_, _, rfl⟩

end Go.Proofs.Ytghklbflbodajaa

namespace Go.Proofs.Ytghklbflbodajaa
open Go.RowKit Go.ChangeMaps
set_option linter.unusedVariables false
set_option linter.unusedSimpArgs false
set_option linter.unnecessarySimpa false

/-- The cells of element k, in a later world. -/
theorem Ents.cells {w wr : World} {a : Option Addr} {l : List Ent} (h : ∀ i x, l[i]? = some x → ∃ cs b off, EntAt w x cs ∧ cs.length = 12 ∧ a = some ⟨b, off, none⟩ ∧ ∀ j u, cs[j]? = some u → w.cell? ⟨b, off + i * 12 + j, none⟩ = some u)
    (hc : Chg NoB w wr) (k : Nat) (hk : k < l.length) : ∃ x b off v1 v2, Hid (l[k] = x) ∧ a = some ⟨b, off, none⟩ ∧ Tabs w x.r v1 v2 ∧ Hid (x.r.ok ∧ fits x.at_) ∧
      wr.cell? ⟨b, off + k * 12, none⟩ = some (.int .i64 x.at_) ∧
      wr.cell? ⟨b, off + k * 12 + 1, none⟩ = some (.int .i64 x.r.kind) ∧
      wr.cell? ⟨b, off + k * 12 + 2, none⟩ = some (.int .i64 x.r.txn) ∧
      wr.cell? ⟨b, off + k * 12 + 3, none⟩ = some (.int .i64 x.r.page) ∧
      wr.cell? ⟨b, off + k * 12 + 4, none⟩ = some (.int .i64 x.r.off) ∧
      wr.cell? ⟨b, off + k * 12 + 5, none⟩ = some (.int .i64 x.r.prev) ∧
      wr.cell? ⟨b, off + k * 12 + 6, none⟩ = some (.int .i64 x.r.next) ∧
      wr.cell? ⟨b, off + k * 12 + 7, none⟩ = some (.int .i64 x.r.beg) ∧
      wr.cell? ⟨b, off + k * 12 + 8, none⟩ = some (.string x.r.before) ∧
      wr.cell? ⟨b, off + k * 12 + 9, none⟩ = some (.string x.r.after) ∧
      wr.cell? ⟨b, off + k * 12 + 10, none⟩ = some v1 ∧
      wr.cell? ⟨b, off + k * 12 + 11, none⟩ = some v2 := by
  obtain ⟨cs, b, off, ⟨v1, v2, rfl, ht, hok⟩, _, ha, h2⟩ := h k _ (List.getElem?_eq_getElem hk)
  have g : ∀ j u, (Value.int .i64 l[k].at_ :: l[k].r.cs v1 v2)[j]? = some u → wr.cell? ⟨b, off + k * 12 + j, none⟩ = some u := fun j u hu => hc.cell (h2 j u hu) (fun e => e)
  exact ⟨l[k], b, off, v1, v2, rfl, ha, ht, hok, g 0 _ rfl, g 1 _ rfl, g 2 _ rfl, g 3 _ rfl, g 4 _ rfl, g 5 _ rfl, g 6 _ rfl, g 7 _ rfl, g 8 _ rfl, g 9 _ rfl, g 10 _ rfl, g 11 _ rfl⟩

def Rec.few (r : Rec) : Bool := decide (r.before.size ≤ 300) && (decide (r.after.size ≤ 300) && (decide (r.txns.length ≤ 50) && decide (r.pages.length ≤ 50)))

set_option maxRecDepth 100000 in
theorem recFew (r : Rec) (v1 v2 : Value) (w : World) (ht : Tabs w r v1 v2) (res : Bool) (hres : Hid (res = r.few)) :
    Calls Try.prog 49 #[r.val v1 v2] w fun e w' => e = .returned (.bool res) ∧ Chg NoB w w' := by
  obtain ⟨⟨a1, c1, rfl, _, _, _⟩, ⟨a2, c2, rfl, _, _, _⟩⟩ := ht
  unfold Rec.val
  obtain ⟨n1, h1⟩ := named r.before.size
  obtain ⟨n2, h2⟩ := named r.after.size
  go_enter Try.func49, Try.ntmps49
  go_wp2
  all_goals go_ret
  all_goals exact ⟨ret_bool (by rw [hres.out]; simp only [Rec.few]; rw [Bool.eq_iff_iff]; simp; omega), (Chg.refl _ _).alloc _⟩

def entsFew (l : List Ent) : Bool := l.all (fun x => x.r.few) && decide (l.length ≤ 200)

set_option maxRecDepth 100000 in
theorem entsFew_calls (v : Value) (l : List Ent) (w : World) (hv : Ents w v l) (res : Bool) (hres : Hid (res = entsFew l)) :
    Calls Try.prog 20 #[v] w fun e w' => e = .returned (.bool res) ∧ Chg NoB w w' := by
  obtain ⟨a, c, rfl, h1, h2, h3⟩ := hv
  unfold maxLen at h2
  go_enter Try.func20, Try.ntmps20
  go_wp2
  go_loopw [3] (fun i wr => ∃ k : Nat, k ≤ l.length ∧ i = .int .i64 k ∧ Hid (∀ j (hj : j < k) (h : j < l.length), l[j].r.few = true) ∧ Chg NoB w wr) (fun i _ => l.length - (intOf i).toNat)
  case atStart => exact ⟨0, by omega, rfl, hid (fun j h => by omega), Chg.refl _ _⟩
  case round =>
    obtain ⟨k, hk, rfl, HE, hc⟩ := hrel
    by_cases hlt : k < l.length
    · obtain ⟨x, b, off, v1, v2, hx, rfl, ht, _, g0, g1, g2, g3, g4, g5, g6, g7, g8, g9, g10, g11⟩ := Ents.cells h3 hc k hlt
      have HA := hid h3
      clear h3
      obtain ⟨f, hf⟩ := named x.r.few
      cases f
      · go_wp2_with (go_at_call 49; refine (recFew _ _ _ _ (ht.mono hc) _ hf).mono ?_; rintro e w' ⟨rfl, hc'⟩)
        go_ret
        refine ⟨ret_bool ?_, hc.trans' hc'⟩
        rw [hres.out]
        symm
        simp only [entsFew, Bool.and_eq_false_iff]
        left
        rw [List.all_eq_false]
        exact ⟨l[k], List.getElem_mem hlt, by rw [hx.out, ← hf.out]; simp⟩
      · go_wp2_with (go_at_call 49; refine (recFew _ _ _ _ (ht.mono hc) _ hf).mono ?_; rintro e w' ⟨rfl, hc'⟩)
        go_roundw
        case rel =>
          refine ⟨k + 1, by omega, by go_num, hid (fun j hj h => ?_), hc.trans' hc'⟩
          by_cases hjk : j < k
          · exact HE.out j hjk h
          · obtain rfl : j = k := by omega
            rw [hx.out, ← hf.out]
        case measure => simp [intOf]; omega
    · obtain rfl : k = l.length := by omega
      have hall : l.all (fun x => x.r.few) = true := by
        rw [List.all_eq_true]
        intro x hx
        obtain ⟨i, hi, rfl⟩ := List.getElem_of_mem hx
        exact HE.out i hi hi
      have HALL := hid hall
      clear hall
      go_wp2
      go_ret
      exact ⟨ret_bool (by rw [hres.out]; simp only [entsFew, HALL.out, Bool.true_and]; first | rfl | (simp; omega)), hc⟩

def risesB : List Ent → Bool
  | [] => true
  | [_] => true
  | x :: y :: l => decide (x.at_ < y.at_) && risesB (y :: l)

theorem risesB_iff {l : List Ent} : risesB l = true ↔ ∀ i (h : i + 1 < l.length), l[i].at_ < l[i + 1].at_ := by
  induction l with
  | nil => simp [risesB]
  | cons x l ih =>
    cases l with
    | nil => simp [risesB]
    | cons y l =>
      simp only [risesB, Bool.and_eq_true, decide_eq_true_eq, ih]
      constructor
      · rintro ⟨h1, h2⟩ i hi
        cases i with
        | zero => exact h1
        | succ i => exact h2 i (by simpa using hi)
      · intro h
        exact ⟨h 0 (by simp), fun i hi => h (i + 1) (by simpa using hi)⟩

end Go.Proofs.Ytghklbflbodajaa

namespace Go.Proofs.Ytghklbflbodajaa
open Go.RowKit Go.ChangeMaps
set_option linter.unusedVariables false
set_option linter.unusedSimpArgs false
set_option linter.unnecessarySimpa false

/-- The cells of a record that has no tables. -/
def Rec.csn (r : Rec) : List Value := r.cs (.slice none 0 0) (.slice none 0 0)
/-- The cells of an entry without tables. -/
def Ent.csn (x : Ent) : List Value := .int .i64 x.at_ :: x.r.csn
theorem tabs_nil {w : World} {r : Rec} (h1 : r.txns = []) (h2 : r.pages = []) : Tabs w r (.slice none 0 0) (.slice none 0 0) := by
  refine ⟨⟨none, 0, by rw [h1]; rfl, by simp [h1], by simp [h1, maxLen], fun i x hi => by rw [h1] at hi; simp at hi⟩, ⟨none, 0, by rw [h2]; rfl, by simp [h2], by simp [h2, maxLen], fun i x hi => by rw [h2] at hi; simp at hi⟩⟩
theorem Ents.of_cells {w : World} {v : Value} {l : List Ent} (h : Rd w 12 Ent.csn v l) (hn : ∀ x ∈ l, x.r.txns = [] ∧ x.r.pages = [] ∧ x.r.ok ∧ fits x.at_) : Ents w v l := by
  obtain ⟨a, c, h1, h2, h3, h4⟩ := h
  refine ⟨a, c, h1, h2, h3, fun i x hi => ?_⟩
  obtain ⟨b, off, h5, h6⟩ := h4 i x hi
  obtain ⟨n1, n2, n3, n4⟩ := hn x (List.mem_of_getElem? hi)
  exact ⟨_, b, off, ⟨_, _, rfl, tabs_nil n1 n2, n3, n4⟩, by simp [Ent.csn, Rec.csn, Rec.cs], h5, fun j u hu => h6 j u hu⟩
/-- A slice over a whole block. -/
theorem Rd.of_blk {α : Type} {w : World} {size : Nat} {enc : α → List Value} (he : ∀ x, (enc x).length = size) {l : List α} {b : Nat} {cs : Array Value} {t : TypeId} {f : Nat × Nat} (hb : w.heap[b]? = some (.cells cs t f)) (hcs : cs.toList = l.flatMap enc) (hl : l.length ≤ maxLen) :
    Rd w size enc (.slice (some ⟨b, 0, none⟩) l.length l.length) l := by
  refine ⟨_, _, rfl, Nat.le_refl _, hl, fun i x hi => ⟨b, 0, rfl, fun j u hu => ?_⟩⟩
  have := flatMap_get he hi hu
  rw [cell_blk hb, ← Array.getElem?_toList, hcs, Nat.zero_add]
  exact this
theorem few_len {l : List Ent} (h : true = entsFew l) : l.length ≤ 1000000 := by
  simp [entsFew] at h
  omega

theorem slEnt : SlT Try.prog 54 80 (.agg #[.int .i64 0, .int .i64 0, .int .i64 0, .int .i64 0, .int .i64 0, .int .i64 0, .int .i64 0, .int .i64 0, .string ⟨#[]⟩, .string ⟨#[]⟩, .slice none 0 0, .slice none 0 0]) 12 144 := ⟨Try.underlying54, by kernel_rfl, rfl, by omega⟩
/-- The cells of an entry with its tables. -/
def encE (p : Ent × Value × Value) : List Value := .int .i64 p.1.at_ :: p.1.r.cs p.2.1 p.2.2

/-- The block of a slice that has elements. -/
def SlB (v : Value) (k : Nat) : Prop := ∃ off n c, v = .slice (some ⟨k, off, none⟩) n c ∧ 0 < n
theorem Rd.keepS {α : Type} {w w' : World} {size : Nat} {enc : α → List Value} {v : Value} {l : List α} {S : Nat → Prop} (h : Rd w size enc v l) (hc : Chg S w w') (hs : ∀ k, SlB v k → ¬ S k) : Rd w' size enc v l := by
  obtain ⟨a, c, hv, h1, h2, h3⟩ := h
  refine ⟨a, c, hv, h1, h2, fun i x hi => ?_⟩
  obtain ⟨b, off, ha, h4⟩ := h3 i x hi
  have hl : 0 < l.length := by have := (List.getElem?_eq_some_iff.1 hi).1; omega
  exact ⟨b, off, ha, fun j u hu => hc.cell (h4 j u hu) (hs b ⟨off, _, _, by rw [hv, ha], hl⟩)⟩
theorem Rd.slLt {α : Type} {w : World} {size : Nat} {enc : α → List Value} (he : ∀ x, (enc x).length = size) (hp : 0 < size) {v : Value} {l : List α} (h : Rd w size enc v l) {k : Nat} (hk : SlB v k) : k < w.heap.size := by
  obtain ⟨a, c, hv, h1, h2, h3⟩ := h
  obtain ⟨off, n, c', e, hn⟩ := hk
  rw [hv] at e
  cases e
  obtain ⟨b, off', ha, h4⟩ := h3 0 _ (List.getElem?_eq_getElem hn)
  cases ha
  have hlt : 0 < (enc l[0]).length := by rw [he]; exact hp
  exact World.block_lt_of_cell? w _ (h4 0 _ (List.getElem?_eq_getElem hlt))
theorem SlB.nil {k : Nat} : ¬ SlB (.slice none 0 0) k := by rintro ⟨_, _, _, e, _⟩; cases e

/-- An entry whose tables lie outside of F. -/
structure EntK (F : Nat → Prop) (w : World) (p : Ent × Value × Value) : Prop where
  tabs : Tabs w p.1.r p.2.1 p.2.2
  ok : p.1.r.ok
  fit : fits p.1.at_
  out : ∀ k, F k → ¬ SlB p.2.1 k ∧ ¬ SlB p.2.2 k
theorem EntK.keep {F S : Nat → Prop} {w w' : World} {p : Ent × Value × Value} (h : EntK F w p) (hc : Chg S w w') (hs : ∀ k, S k → F k ∨ w.heap.size ≤ k) : EntK F w' p := by
  have lt1 : ∀ k, SlB p.2.1 k → k < w.heap.size := fun k hk => Rd.slLt (size := 3) (fun _ => rfl) (by decide) h.tabs.1 hk
  have lt2 : ∀ k, SlB p.2.2 k → k < w.heap.size := fun k hk => Rd.slLt (size := 2) (fun _ => rfl) (by decide) h.tabs.2 hk
  refine ⟨⟨h.tabs.1.keepS hc fun k hk e => ?_, h.tabs.2.keepS hc fun k hk e => ?_⟩, h.ok, h.fit, h.out⟩
  · rcases hs k e with h1 | h1
    · exact (h.out k h1).1 hk
    · have := lt1 k hk; omega
  · rcases hs k e with h1 | h1
    · exact (h.out k h1).2 hk
    · have := lt2 k hk; omega
theorem EntK.mono {F F' : Nat → Prop} {w : World} {p : Ent × Value × Value} (h : EntK F w p) (hF : ∀ k, F' k → F k ∨ w.heap.size ≤ k) : EntK F' w p := by
  refine ⟨h.tabs, h.ok, h.fit, fun k hk => ?_⟩
  rcases hF k hk with h1 | h1
  · exact h.out k h1
  · exact ⟨fun hk => by have := Rd.slLt (size := 3) (fun _ => rfl) (by decide) h.tabs.1 hk; omega, fun hk => by have := Rd.slLt (size := 2) (fun _ => rfl) (by decide) h.tabs.2 hk; omega⟩

/-- A list of entries of one's own; their tables lie outside of it and of F. -/
def OwnE (F : Nat → Prop) (w : World) (base : Nat) (v : Value) (L : List Ent) : Prop :=
  ∃ xs : List (Ent × Value × Value), xs.map (·.1) = L ∧ (∀ p ∈ xs, EntK (fun k => OwnB v k ∨ F k) w p) ∧ w.ownsRow base 80 12 v xs.length (xs.flatMap encE)
theorem OwnE.nil (F : Nat → Prop) (w : World) (base : Nat) : OwnE F w base (.slice none 0 0) [] := ⟨[], rfl, by simp, World.ownsRow_nil _ _ _ _⟩
theorem OwnE.ents {F : Nat → Prop} {w : World} {base : Nat} {v : Value} {L : List Ent} (h : OwnE F w base v L) : Ents w v L := by
  obtain ⟨xs, rfl, h2, h3⟩ := h
  obtain ⟨a, c, e1, e2, e3, e4⟩ := Rd.of_own (fun x => by simp [encE, Rec.cs]) h3
  refine ⟨a, c, by rw [e1]; simp, by simpa using e2, by simpa using e3, fun i x hi => ?_⟩
  rw [List.getElem?_map] at hi
  obtain ⟨p, hp, rfl⟩ := Option.map_eq_some_iff.1 hi
  obtain ⟨b, off, e5, e6⟩ := e4 i p hp
  have hk := h2 p (List.mem_of_getElem? hp)
  exact ⟨_, b, off, ⟨_, _, rfl, hk.tabs, hk.ok, hk.fit⟩, by simp [Rec.cs], e5, fun j u hu => e6 j u hu⟩
theorem OwnE.form {F : Nat → Prop} {w : World} {base : Nat} {v : Value} {L : List Ent} (h : OwnE F w base v L) : ∃ ao co, v = .slice ao L.length co := by
  obtain ⟨xs, rfl, h2, h3⟩ := h
  obtain ⟨ao, co, rfl⟩ := ownsForm h3
  exact ⟨ao, co, by simp⟩
theorem OwnE.own {F : Nat → Prop} {w : World} {base : Nat} {v : Value} {L : List Ent} (h : OwnE F w base v L) : ∃ xs : List (Ent × Value × Value), xs.length = L.length ∧ w.ownsRow base 80 12 v xs.length (xs.flatMap encE) := by
  obtain ⟨xs, rfl, h2, h3⟩ := h
  exact ⟨xs, by simp, h3⟩
theorem OwnE.ge {F : Nat → Prop} {w : World} {base : Nat} {v : Value} {L : List Ent} (h : OwnE F w base v L) {k : Nat} (hk : OwnB v k) : base ≤ k ∧ k < w.heap.size := by
  obtain ⟨xs, rfl, h2, h3⟩ := h
  exact OwnB.ge h3 k hk
/-- What lies elsewhere may turn. -/
theorem OwnE.keep {F S : Nat → Prop} {w w' : World} {base : Nat} {v : Value} {L : List Ent} (h : OwnE F w base v L) (hc : Chg S w w') (hs : ∀ k, S k → F k ∨ w.heap.size ≤ k) (ho : ∀ k, OwnB v k → ¬ S k) : OwnE F w' base v L := by
  obtain ⟨xs, rfl, h2, h3⟩ := h
  refine ⟨xs, rfl, fun p hp => (h2 p hp).keep hc fun k hk => ?_, ownsRow.chg h3 hc ho⟩
  rcases hs k hk with h1 | h1
  · exact .inl (.inr h1)
  · exact .inr h1
theorem OwnE.keep0 {F : Nat → Prop} {w w' : World} {base : Nat} {v : Value} {L : List Ent} (h : OwnE F w base v L) (hc : Chg NoB w w') : OwnE F w' base v L := h.keep hc (fun _ e => e.elim) (fun _ _ => fun e => e)

/-- append of one entry, laid into a block of its own. -/
theorem step_appE {P : Program} {w : World} {ops : Array Oper} {rest : List Oper} {o : Oper} {a : Act} {Q : Exit → Act → World → Prop} (T : SlT P 54 80 (.agg #[.int .i64 0, .int .i64 0, .int .i64 0, .int .i64 0, .int .i64 0, .int .i64 0, .int .i64 0, .int .i64 0, .string ⟨#[]⟩, .string ⟨#[]⟩, .slice none 0 0, .slice none 0 0]) 12 144)
    (hg : o.guard = none) (s x : Operand) (hop : o.op = .call { callee := .builtin .append, args := #[s, x], argTypes := #[54, 54] })
    {F : Nat → Prop} {base : Nat} {v : Value} {L : List Ent} (hown : OwnE F w base v L) (hs : a.eval s = v) (b : Nat) (y : Ent) (v1 v2 : Value) (hx : a.eval x = .slice (some ⟨b, 0, none⟩) 1 1)
    {c : Array Value} {e' : TypeId} {f : Nat × Nat} (hb : w.heap[b]? = some (.cells c e' f)) (hc : c = (encE (y, v1, v2)).toArray) (hone : v1.oneCell' = true ∧ v2.oneCell' = true) (hy : EntK (fun k => OwnB v k ∨ F k) w (y, v1, v2))
    (hn : L.length ≤ 100000000) (hbase : base ≤ w.heap.size)
    (hK : ∀ v' w', OwnE F w' base v' (L ++ [y]) → Chg (OwnB v) w w' → (∀ i, OwnB v' i → OwnB v i ∨ w.heap.size ≤ i) → wpList P ops Q rest (a.put o.dst v') w') : wpList P ops Q (o :: rest) a w := by
  obtain ⟨xs, rfl, h2, h3⟩ := hown
  rw [List.length_map] at hn
  refine step_app1 T hg s x hop h3 hs b (encE (y, v1, v2)) hx hb hc (by simp [encE, Rec.cs]) (by obtain ⟨o1, o2⟩ := hone; intro u hu; simp only [encE, Rec.cs, List.mem_cons, List.not_mem_nil, or_false] at hu; rcases hu with h | h | h | h | h | h | h | h | h | h | h | h <;> subst h <;> first | rfl | assumption) (by omega) (by unfold maxLen; omega) hbase fun v' w' g1 g2 g3 g4 => ?_
  refine hK v' w' ⟨xs ++ [(y, v1, v2)], by simp, ?_, by simpa using g1⟩ g2 g3
  intro p hp
  have hp' : EntK (fun k => OwnB v k ∨ F k) w p := by
    rcases List.mem_append.1 hp with h | h
    · exact h2 p h
    · obtain rfl := List.mem_singleton.1 h; exact hy
  have h5 : EntK (fun k => (OwnB v' k ∨ F k) ∨ OwnB v k) w p := hp'.mono fun k hk => by
    rcases hk with (hk | hk) | hk
    · rcases g3 k hk with h | h
      · exact .inl (.inl h)
      · exact .inr h
    · exact .inl (.inr hk)
    · exact .inl (.inl hk)
  exact (h5.keep g2 fun k hk => .inl (.inr hk)).mono fun k hk => .inl (.inl hk)
end Go.Proofs.Ytghklbflbodajaa

namespace Go.Proofs.Ytghklbflbodajaa
set_option linter.unusedVariables false
set_option linter.unusedSimpArgs false
set_option linter.unnecessarySimpa false

def sortI (l : List Int) : List Int := l.mergeSort (fun x y => decide (x ≤ y))
/-! ### sorted -/
theorem sortI_mem {l : List Int} {x : Int} : x ∈ sortI l ↔ x ∈ l := by unfold sortI; simp
theorem sortI_len (l : List Int) : (sortI l).length = l.length := by unfold sortI; simp
theorem sortI_pw (l : List Int) : (sortI l).Pairwise (fun a b => a ≤ b) := by
  unfold sortI
  have := List.pairwise_mergeSort (le := fun x y : Int => decide (x ≤ y)) (fun a b c h1 h2 => by simp at *; omega) (fun a b => by simp; omega) l
  exact this.imp fun h => by simpa using h
theorem sortI_nodup {l : List Int} (h : l.Nodup) : (sortI l).Nodup := by
  unfold sortI
  exact (List.mergeSort_perm _ _).nodup_iff.2 h
theorem sortI_lt {l : List Int} (h : l.Nodup) : (sortI l).Pairwise (fun a b => a < b) := by
  have h1 := sortI_pw l
  have h2 := sortI_nodup h
  exact (List.Pairwise.and h1 h2).imp fun ⟨a, b⟩ => by omega
theorem lt_ext : ∀ {a b : List Int}, a.Pairwise (fun x y => x < y) → b.Pairwise (fun x y => x < y) → (∀ x, x ∈ a ↔ x ∈ b) → a = b := by
  intro a
  induction a with
  | nil =>
    intro b _ _ h
    cases b with
    | nil => rfl
    | cons y b => exact absurd ((h y).2 (by simp)) (by simp)
  | cons x a ih =>
    intro b ha hb h
    cases b with
    | nil => exact absurd ((h x).1 (by simp)) (by simp)
    | cons y b =>
      rw [List.pairwise_cons] at ha hb
      have hxy : x = y := by
        have h1 := (h x).1 (by simp)
        have h2 := (h y).2 (by simp)
        simp only [List.mem_cons] at h1 h2
        rcases h1 with h1 | h1
        · exact h1
        · rcases h2 with h2 | h2
          · exact h2.symm
          · have := hb.1 x h1
            have := ha.1 y h2
            omega
      subst hxy
      congr 1
      refine ih ha.2 hb.2 fun z => ?_
      have h1 := h z
      simp only [List.mem_cons] at h1
      constructor
      · intro hz
        rcases h1.1 (.inr hz) with e | e
        · have := ha.1 z hz; omega
        · exact e
      · intro hz
        rcases h1.2 (.inr hz) with e | e
        · have := hb.1 z hz; omega
        · exact e
theorem sortI_ext {a b : List Int} (ha : a.Nodup) (hb : b.Nodup) (h : ∀ x, x ∈ a ↔ x ∈ b) : sortI a = sortI b :=
  lt_ext (sortI_lt ha) (sortI_lt hb) fun x => by rw [sortI_mem, sortI_mem]; exact h x
end Go.Proofs.Ytghklbflbodajaa
