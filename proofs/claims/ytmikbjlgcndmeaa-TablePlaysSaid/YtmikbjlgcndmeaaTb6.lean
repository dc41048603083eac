import Derived.Test.YtmikbjlgcndmeaaTb5
import Derived.Test.YtmikbjlgcndmeaaKeys
namespace Go.Proofs.Ytmikbjlgcndmeaa
open Go.RowKit Go.ChangeMaps Go.MapKept
set_option linter.unusedVariables false
set_option linter.unusedSimpArgs false
set_option linter.unnecessarySimpa false

def toN : Value → Nat
  | .int _ q => q.toNat
  | _ => 0
def encRow (x : Int × Int × Int) : List Value := [.int .i64 x.1, .int .i64 x.2.1, .int .i64 x.2.2]
def rowOf (T : TTab) (n : Int) : Option (Int × Int × Int) := (tFind T n).bind fun s => if 0 < s.last then some (s.txn, s.first, s.last) else none
def tRows' (T : TTab) : List (Int × Int × Int) := (sortI (T.map (·.txn))).filterMap (rowOf T)

theorem slRow : SlT Try.prog 55 49 (.agg #[.int .i64 0, .int .i64 0, .int .i64 0]) 3 24 := ⟨Try.underlying55, by kernel_rfl, rfl, by omega⟩

theorem ownsBase' {w : World} {B B' : Nat} {e : TypeId} {size : Nat} {v : Value} {n : Nat} {xs : List Value} (h : w.ownsRow B e size v n xs) (hb : B' ≤ B) : w.ownsRow B' e size v n xs := by
  refine ⟨h.1, ?_⟩
  rcases h.2 with h2 | ⟨g, cap, cur, h3, h4, h5⟩
  · exact .inl h2
  · exact .inr ⟨g, cap, cur, h3, Nat.le_trans hb h4, h5⟩
theorem sortI_len (l : List Int) : (sortI l).length = l.length := by unfold sortI; simp
theorem sortI_mem {l : List Int} {x : Int} : x ∈ sortI l ↔ x ∈ l := by unfold sortI; simp

theorem find_mem {p r : Nat} {E : List TxE} {w : World} (h : TabAt w p r E) {n : Int} (hn : n ∈ E.map (fun e => e.s.txn)) : ∃ e ∈ E, e.s.txn = n ∧ mget (E.map fun e => (e.s.txn, e.b)) n = some e.b ∧ tFind (E.map (·.s)) n = some e.s := by
  rcases h.find n with ⟨h1, h2, h3⟩ | ⟨i, e, hi, he, h1, h3⟩
  · obtain ⟨e, he, rfl⟩ := List.mem_map.1 hn
    exact absurd rfl (h2 e he)
  · exact ⟨e, List.mem_of_getElem? hi, he, h1, h3⟩

theorem take_fm {α β : Type} {f : α → Option β} {l : List α} {k : Nat} {x : α} (hk : k < l.length) (hx : l[k] = x) : (l.take (k + 1)).filterMap f = (l.take k).filterMap f ++ (f x).toList := by
  rw [List.take_succ_eq_append_getElem hk, List.filterMap_append, hx]
  cases hf : f x <;> simp [List.filterMap_cons, hf]

set_option maxRecDepth 100000 in
set_option maxHeartbeats 8000000 in
theorem tabRows (p r : Nat) (E : List TxE) (w : World) (h : TabAt w p r E) :
    Calls Try.prog 25 #[.pointer (some ⟨p, 0, none⟩)] w fun e w' => ∃ v, e = .returned v ∧ w'.ownsRow w.heap.size 49 3 v (tRows' (E.map (·.s))).length ((tRows' (E.map (·.s))).flatMap encRow) ∧ Chg NoB w w' := by
  have HH := hid h
  have x0 : w.cell? ⟨p, 0, none⟩ = some (.map (some r)) := by rw [cell_blk h.tab]; rfl
  have hfit : ∀ x ∈ E.map (fun e => (e.s.txn, e.b)), (Lit.int .i64 x.1).wf = true := by
    intro x hx
    obtain ⟨e, he, rfl⟩ := List.mem_map.1 hx
    have := h.fit e he
    simp [Lit.wf, IntKind.min, IntKind.max, IntKind.signed, IntKind.bits]
    omega
  have hfew := h.few
  have HF := hid hfit
  obtain ⟨ks, hks⟩ : ∃ ks, Hid (ks = sortI (E.map (fun e => e.s.txn))) := named _
  have hkl : ks.length ≤ 4 := by rw [hks.out, sortI_len]; simpa using hfew
  have hkm : Hid (∀ n ∈ ks, n ∈ E.map (fun e => e.s.txn)) := by intro n hn; rw [hks.out] at hn; exact sortI_mem.1 hn
  have hkT : Hid (ks.filterMap (rowOf (E.map (·.s))) = tRows' (E.map (·.s))) := by
    unfold tRows'
    rw [hks.out, List.map_map]; rfl
  have hks2 : Hid (sortI ((E.map fun e => (e.s.txn, e.b)).map (·.1)) = ks) := by rw [hks.out, List.map_map]; rfl
  rw [← hkT.out]
  clear h hfit
  go_enter Try.func25, Try.ntmps25
  go_wp2_with (first
    | (go_at_call 32; refine (keys_calls _ _).mono ?_; rintro e w1 ⟨rfl, rfl⟩)
    | (go_at_call 31; refine (sorted_calls r w.heap.size (E.map fun e => (e.s.txn, e.b)) _ (blk_new _ _) (HH.out.map.chg ((Chg.refl NoB w).alloc _) (fun e => e)) HF.out (by simp; omega)).mono ?_; rintro e w1 ⟨v1, rfl, ho1, hc1⟩; rw [hks2.out] at ho1; obtain ⟨a1, k1, rfl⟩ := ownsForm' ho1; replace ho1 := hid ho1; replace hc1 := hid hc1))
  have hC1 := hid (((Chg.refl NoB w).alloc (.cells #[.map (some r)] 60)).trans' hc1.out)
  obtain ⟨_, _, ee, hk1, hk2, hrd⟩ := Rd.ints_of ho1.out
  cases ee
  have HRD := hid hrd
  clear hrd hc1
  go_loopw [2, 14] (fun o i wr => ∃ k : Nat, k ≤ ks.length ∧ i = .int .i64 k ∧ Hid (Chg NoB w1 wr) ∧ Hid (wr.ownsRow w1.heap.size 49 3 o ((ks.take k).filterMap (rowOf (E.map (·.s)))).length (((ks.take k).filterMap (rowOf (E.map (·.s)))).flatMap encRow))) (fun _ i _ => ks.length - toN i)
  case atStart => exact ⟨0, by omega, rfl, Chg.refl _ _, hid (by simpa using World.ownsRow_nil _ _ _ _)⟩
  case round =>
    obtain ⟨k, hk, rfl, hc, hO⟩ := hrel
    obtain ⟨ao, co, rfl⟩ := ownsForm' hO.out
    have hP := hid (HH.out.keep0 (hC1.out.trans' hc.out))
    have y0 : wr.cell? ⟨p, 0, none⟩ = some (.map (some r)) := by rw [cell_blk hP.out.tab]; rfl
    by_cases hlt : k < ks.length
    · obtain ⟨kb, ko, rfl, g0⟩ := Rd.int_at HRD.out k hlt
      replace g0 := hc.out.cell g0 (fun e => e)
      obtain ⟨n, hn⟩ := named (ks[k])
      rw [← hn.out] at g0
      obtain ⟨e, he, het, hget, hfind⟩ := find_mem HH.out (hkm.out n (by rw [hn.out]; exact List.getElem_mem _))
      obtain ⟨c0, c1, c2, c3, c4, cf⟩ := TxE.cells (hP.out.blk e he).1
      have HG := hid hget
      have HT := hid (take_fm (f := rowOf (E.map (·.s))) hlt hn.out.symm)
      have hlen3 : ((ks.take k).filterMap (rowOf (E.map (·.s)))).length ≤ 4 := by
        have := List.length_filterMap_le (rowOf (E.map (·.s))) (ks.take k)
        have h2 : (ks.take k).length ≤ ks.length := by rw [List.length_take]; omega
        omega
      have hsz := (hC1.out.trans' hc.out).size
      have hszw := hc.out.size
      clear cf c3 c4 hget
      by_cases hl : 0 < e.s.last
      · have hrow : Hid (rowOf (E.map (·.s)) n = some (e.s.txn, e.s.first, e.s.last)) := hid (by unfold rowOf; rw [hfind]; simp [hl])
        clear hfind he het
        go_wp2_with (first
          | (at_lookup; refine step_lookup hP.out.map rfl _ _ 60 3 63 false rfl Try.underlying60 Try.underlying3 (zero_txn _) n rfl rfl ?_; rw [HG.out]; simp only [Option.map_some, Option.getD_some, Bool.false_eq_true, if_false])
          | (at_builtin; refine step_app1 slRow rfl _ _ rfl (World.ownsRow.alloc hO.out _) rfl wr.heap.size [.int .i64 e.s.txn, .int .i64 e.s.first, .int .i64 e.s.last] rfl (blk_new _ _) rfl rfl (by simp [Value.oneCell']) ?_ ?_ ?_ ?_))
        case _ => omega
        case _ => unfold maxLen; omega
        case _ => first | omega | (simp; omega)
        intro v5 w5 hv5 hc5 hvo hnil
        have C5 : Hid (Chg NoB w1 w5) := by
          refine (hc.out.alloc (.cells #[.int .i64 e.s.txn, .int .i64 e.s.first, .int .i64 e.s.last] 49)).trans hc5 fun i hi => ?_
          exact .inr (OwnB.ge hO.out i hi).1
        have HV5 := hid hv5
        clear hv5 hc5 hvo hnil
        go_wp2_with fail
        go_roundw
        case rel =>
          refine ⟨k + 1, by omega, by go_num, C5.out, hid ?_⟩
          rw [HT.out, hrow.out]
          simpa [encRow] using HV5.out
        case measure => simp [toN]; omega
      · have hrow : Hid (rowOf (E.map (·.s)) n = none) := hid (by unfold rowOf; rw [hfind]; simp [hl])
        clear hfind he het
        go_wp2_with (at_lookup; refine step_lookup hP.out.map rfl _ _ 60 3 63 false rfl Try.underlying60 Try.underlying3 (zero_txn _) n rfl rfl ?_; rw [HG.out]; simp only [Option.map_some, Option.getD_some, Bool.false_eq_true, if_false])
        go_roundw
        case rel =>
          refine ⟨k + 1, by omega, by go_num, hc.out, hid ?_⟩
          rw [HT.out, hrow.out]
          simpa using hO.out
        case measure => simp [toN]; omega
    · obtain rfl : ks.length = k := by omega
      rw [List.take_length] at hO ⊢
      go_wp2_with fail
      go_ret
      exact ⟨_, rfl, ownsBase' hO.out hC1.out.size, hC1.out.trans' hc.out⟩
end Go.Proofs.Ytmikbjlgcndmeaa
