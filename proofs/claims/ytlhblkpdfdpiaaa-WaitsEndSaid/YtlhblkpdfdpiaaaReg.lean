import Derived.Test.YtlhblkpdfdpiaaaSl
namespace Go.Proofs.Ytlhblkpdfdpiaaa
open Go.RowKit Go.ChangeMaps Go.MapKept
set_option linter.unusedVariables false
set_option linter.unusedSimpArgs false
set_option linter.unnecessarySimpa false

theorem nob {k : Nat} : ¬ NoB k := fun e => e
/-- A region of reads, whose last operations wait for all others. -/
theorem wp_region_tail {P : Program} {id : Nat} {Q : Exit → Act → World → Prop} {a : Act} {w : World} {l : List Oper} (n : Nat) (hm : P.follows .mixedOrders = true) (hB : Region.lexTailB .any l.toArray n = true)
    (h : wpStill P l.toArray w.drew (fun a' => wpList P l.toArray Q (l.drop n) a' w.drew) (l.take n) a) : (Code.region id l.toArray true).wp P Q a w :=
  wp_region_still_tail n hm hB h
/-- A region of reads. -/
theorem wp_region_reads {P : Program} {id : Nat} {Q : Exit → Act → World → Prop} {a : Act} {w : World} {l : List Oper} (hm : P.follows .mixedOrders = true) (hB : Region.lexB .any l.toArray = true)
    (h : wpStill P l.toArray w.drew (fun a' => Q .normal a' w.drew) l a) : (Code.region id l.toArray true).wp P Q a w :=
  wp_region_still_lit hm hB h

/-- The world at hand, by what is known of it. -/
theorem wp_gen {P : Program} {C : Code} {Q : Exit → Act → World → Prop} {a : Act} {w : World} (R : World → Prop) (hR : R w) (h : ∀ W, R W → C.wp P Q a W) : C.wp P Q a w := h w hR
theorem wpList_gen {P : Program} {ops : Array Oper} {l : List Oper} {Q : Exit → Act → World → Prop} {a : Act} {w : World} (R : World → Prop) (hR : R w) (h : ∀ W, R W → wpList P ops Q l a W) : wpList P ops Q l a w := h w hR

theorem sameC {W w' : World} (h : Chg NoB W w') : ∀ p, (W.cell? p).isSome = true → w'.cell? p = W.cell? p := fun p hp => by
  obtain ⟨v, hv⟩ := Option.isSome_iff_exists.1 hp
  rw [hv, h.cell hv nob]
theorem keepX {W w' : World} {S : World → Prop} (hs : Hid (∀ w', Chg NoB W w' → S w')) (h : Chg NoB W w') : (∀ p, (W.cell? p).isSome = true → w'.cell? p = W.cell? p) ∧ S w' := ⟨sameC h, hs.out w' h⟩
/-- A look-up, in whatever world that has the map. -/
theorem look_any {P : Program} {t kt et : TypeId} (ht : P.underlying t = some (.map kt et)) (hk : P.underlying kt = some (.int .i64)) {ν : Type} {V : ν → Value} {W : World} {r : Nat} {m : List (Int × ν)} (h : MapI W r V m) {z : Value}
    (hz : ∀ w, (zeroValue et).run P w = .ok z w) (k : Int) (ok : Bool) {res : Value} (hr : res = if ok then .tuple #[((mget m k).map V).getD z, .bool (mget m k).isSome] else ((mget m k).map V).getD z) :
    Hid (∀ w', Chg NoB W w' → (Instr.lookup t (.map (some r)) (.int .i64 k) ok).run P w' = .ok res w') := hid (fun w' hw => by
  rw [hr]
  exact (h.chg hw nob).lookup ht hk (hz w') k ok)

theorem MapI.drew {ν : Type} {V : ν → Value} {w : World} {r : Nat} {m : List (Int × ν)} (h : MapI w r V m) : MapI w.drew r V m := h.keep rfl
end Go.Proofs.Ytlhblkpdfdpiaaa
