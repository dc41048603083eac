import Derived.Test.YtmhmlfdidnhaoaaLock3
import Derived.Laws.Externs
namespace Go.Proofs.Ytmhmlfdidnhaoaa
open Go.RowKit Go.ChangeMaps

section
variable {P : Program} {w : World}
theorem run_eql_map_nil' (t k e : TypeId) (p : Option Nat) (h : P.underlying t = some (.map k e)) : (binOp .eql t (.map p) (.map none)).run P w = .ok (.bool p.isNone) w := by
  have : ∀ d, (Op.equalIn (d + 1) t (.map p) (.map none)).run P w = .ok p.isNone w := fun d => by cases p <;> simp [Op.equalIn, run_underlying h]
  simp only [binOp]
  simp [show Op.equal t (.map p) (.map none) = Op.equalIn (9999 + 1) t (.map p) (.map none) from rfl, this 9999]
theorem run_typeAssert_map' (t xT k e : TypeId) (v : Value) (h : P.underlying t = some (.map k e)) : (Instr.typeAssert (.iface t v) xT t false).run P w = .ok v w := by
  simp [Instr.typeAssert, run_underlying h, go_sem, Result.andThen]
theorem run_maps_clone' {r : Nat} {es : Array MapEntry} {clock : Nat} (t : TypeId) (hb : w.heap[r]? = some (.map es clock)) :
    (Extern.MapsClone.clone #[.iface t (.map (some r))]).run P w = .ok (.iface t (.map (some w.heap.size))) (w.alloc (.map es clock)) := by
  have e : Extern.MapsClone.clone #[.iface t (.map (some r))] = (getObj r >>= fun o => match o with
      | .map entries clock => (newObj (.map entries clock) >>= fun n => pure (.iface t (.map (some n))))
      | _ => stuck "maps.clone: a map expected") := rfl
  rw [e]
  simp [MapKept.run_getObj_map hb, Result.andThen, go_sem]
end

set_option maxRecDepth 100000 in
theorem mapsClone (r : Nat) (m : List (Int × Int)) (w : World) (h : MapI w r (Value.int .i64) m) :
    Calls Try.prog 21 #[.map (some r)] w fun e w' => e = .returned (.map (some w.heap.size)) ∧ MapI w' w.heap.size (Value.int .i64) m ∧ Chg NoB w w' ∧ w'.heap.size = w.heap.size + 1 := by
  obtain ⟨es, clock, hb, hs⟩ := h
  have hq := run_eql_map_nil' (P := Try.prog) (w := w) 44 3 3 (some r) Try.underlying44
  have hfin : MapI (w.alloc (.map es clock)) w.heap.size (Value.int .i64) m := ⟨es, clock, blk_new _ _, hs⟩
  go_enter Try.func21, Try.ntmps21
  go_wp2
  rw [run_callFunc_extern Try.func22 (by kernel_rfl) (by kernel_rfl) (by kernel_rfl) (e := Extern.MapsClone.clone) (by kernel_rfl), run_maps_clone' 44 hb]
  simp only [Result.andThen]
  rw [Oper.upon_value]
  clear hq
  go_wp2
  rw [run_typeAssert_map' 44 20 3 3 _ Try.underlying44]
  simp only [Result.andThen]
  rw [Oper.upon_value]
  go_wp2
  go_ret
  exact ⟨rfl, hfin, (Chg.refl _ _).alloc _, by simp⟩

structure CopyRel (w : World) (t : LTab) (k : Nat) (wr : World) : Prop where
  size : wr.heap.size = w.heap.size + 1 + k
  blk : wr.heap[w.heap.size]? = some (.cells (newCells w.heap.size k) 47 (0, 0))
  maps : ∀ j, j < k → MapI wr (w.heap.size + 1 + j) (Value.int .i64) (t.getD j [])
  chg : Chg NoB w wr

theorem CopyRel.step {w wr w2 : World} {t : LTab} {k : Nat} (h : CopyRel w t k wr) (hk : k < 8) (hm : MapI w2 wr.heap.size (Value.int .i64) (t.getD k [])) (hc : Chg NoB wr w2) (hs : w2.heap.size = wr.heap.size + 1) :
    CopyRel w t (k + 1) (w2.setCell ⟨w.heap.size, k, none⟩ (.map (some (wr.heap.size)))) := by
  have hb2 := hc.heap h.blk (fun e => e)
  refine ⟨by simp [hs, h.size]; omega, ?_, ?_, (h.chg.trans' hc).setCell (.inr (Nat.le_refl _)) _⟩
  · rw [blk_setCell hb2, h.size, newCells_set _ _ hk]
  · intro j hj
    have hne : w.heap.size + 1 + j ≠ w.heap.size := by omega
    by_cases hjk : j < k
    · exact ((h.maps j hjk).chg hc (fun e => e)).keep (by rw [Below.heap_setCell _ _ _ _ hne])
    · obtain rfl : j = k := by omega
      rw [h.size] at hm
      exact hm.keep (Below.heap_setCell _ _ _ _ hne)

set_option maxRecDepth 100000 in
theorem lockCopy (p : Nat) (rs : List Nat) (t : LTab) (w : World) (h : LockAt w p rs t) : Calls Try.prog 18 #[.pointer (some ⟨p, 0, none⟩)] w fun e w' => e = .returned (.pointer (some ⟨w.heap.size, 0, none⟩)) ∧ CopyRel w t 8 w' := by
  go_enter Try.func18, Try.ntmps18
  go_wp2
  go_loopw [9] (fun i wr => ∃ k : Nat, k ≤ 8 ∧ i = .int .i64 k ∧ CopyRel w t k wr) (fun i _ => 8 - (intOf i).toNat)
  case atStart => exact ⟨0, by omega, rfl, ⟨by simp, blk_new _ _, fun j hj => by omega, (Chg.refl _ _).alloc _⟩⟩
  case round =>
    obtain ⟨k, hk, rfl, hN⟩ := hrel
    by_cases hlt : k < 8
    · obtain ⟨r, h1, h2, h3⟩ := (h.keep hN.chg (fun e => e) (fun _ _ e => e)).at k hlt
      go_wp2_with fail
      have hm1 : MapI wr.drew r (Value.int .i64) (t.getD k []) := (h3 : MapI wr r _ _)
      have hc1 : wr.drew.cell? ⟨p, k, none⟩ = some (.map (some r)) := h2
      have hNd : CopyRel w t k wr.drew := ⟨hN.size, hN.blk, hN.maps, hN.chg.drew⟩
      have hcA : wr.drew.cell? ⟨w.heap.size, k, none⟩ = some (.map none) := by rw [World.cell?_drew, cell_blk hN.blk]; exact newCells_at _ _ hlt
      have hfA : wr.drew.frozen? ⟨w.heap.size, k, none⟩ = false := frozen_blk hN.blk _
      have hlA : w.heap.size < wr.drew.heap.size := lt_of_block hN.blk
      go_region_with (go_at_call 21; refine (mapsClone r _ _ hm1).mono ?_; rintro e w2 ⟨rfl, hm2, hc2, hs2⟩; have hcB : w2.cell? ⟨w.heap.size, k, none⟩ = some (.map none) := hc2.cell hcA (fun e => e); have hfB : w2.frozen? ⟨w.heap.size, k, none⟩ = false := (hc2.frozen hlA (fun e => e)).trans hfA)
      have hN2 := hNd.step hlt hm2 hc2 hs2
      clear hm2 hc2 hcB hfB
      go_wp2
      go_roundw
      case rel => exact ⟨k + 1, by omega, by go_num, hN2⟩
      case measure => simp [intOf]; omega
    · obtain rfl : k = 8 := by omega
      go_wp2
      go_ret
      exact ⟨rfl, hN⟩

theorem CopyRel.lock {w w' : World} {t : LTab} (h : CopyRel w t 8 w') (ht : t.length = 8) : LockAt w' w.heap.size (newRs w.heap.size) t := by
  refine ⟨rfl, ht, ?_, ⟨_, h.blk⟩, ?_⟩
  · simp [newRs, List.range_succ]; omega
  · intro i r m hi hm
    have hi8 : i < 8 := (List.getElem?_eq_some_iff.1 hi).1
    have h1 : r = w.heap.size + 1 + i := by
      simp [newRs, hi8] at hi
      exact hi.symm
    have h2 : t.getD i [] = m := by
      show (t[i]?).getD [] = m
      rw [hm]; rfl
    subst h1 h2
    exact h.maps i hi8
end Go.Proofs.Ytmhmlfdidnhaoaa
