import Derived.Test.YtobmaipjbepphaaJuPg
import Derived.Test.YtobmaipjbepphaaJuOp
import Derived.Test.YtobmaipjbepphaaRefSame
namespace Go.Proofs.Ytobmaipjbepphaa
open Go.RowKit Go.ChangeMaps Go.MapKept
set_option linter.unusedVariables false
set_option maxHeartbeats 8000000

theorem slInt : SlT Try.prog 42 3 (.int .i64 0) 1 8 := ⟨Try.underlying42, by kernel_rfl, rfl, by decide⟩
def jCommits (l : List Ent) : List Int := (l.filter (fun x => x.r.kind == 3)).map (fun x => x.r.txn)
theorem jCommits_snoc (l : List Ent) (x : Ent) : jCommits (l ++ [x]) = jCommits l ++ (if x.r.kind == 3 then [x.r.txn] else []) := by
  unfold jCommits
  rw [List.filter_append, List.map_append]
  cases h : (x.r.kind == 3) <;> simp [List.filter_cons, h]

set_option maxRecDepth 100000 in
theorem commits_calls (v : Value) (l : List Ent) (w : World) (hv : Ents w v l) (hl : l.length ≤ 1000) (C : List Int) (hC : Hid (C = jCommits l)) :
    Calls Try.prog 13 #[v] w fun e w' => ∃ vo, e = .returned vo ∧ Hid (w'.ownsRow w.heap.size 3 1 vo C.length (C.map (Value.int .i64))) ∧ Hid (Chg NoB w w') := by
  obtain ⟨a, c, rfl, h1, h2, h3⟩ := hv
  unfold maxLen at h2
  have H3 := hid h3
  clear h3
  go_enter Try.func13, Try.ntmps13
  go_wp2
  go_loopw [2, 7] (fun o i wr => ∃ k : Nat, k ≤ l.length ∧ i = .int .i64 k ∧ Hid (Chg NoB w wr) ∧ Hid (wr.ownsRow w.heap.size 3 1 o (jCommits (l.take k)).length ((jCommits (l.take k)).map (Value.int .i64)))) (fun _ i _ => l.length - toN i)
  case atStart => exact ⟨0, by omega, rfl, Chg.refl _ _, World.ownsRow_nil _ _ _ _⟩
  case round =>
    obtain ⟨k, hk, rfl, hc, hO⟩ := hrel
    by_cases hlt : k < l.length
    · obtain ⟨x, b, off, v1, v2, hx, rfl, ht, hok, hE, hbl, hone⟩ := Ents.at H3.out hc.out k hlt
      obtain ⟨⟨a1, n1, rfl, _, _, _⟩, ⟨a2, n2, rfl, _, _, _⟩⟩ := ht
      obtain ⟨c0, q0, q1, q2, q3, q4, q5, q6, q7, q8, q9, q10⟩ := hE.cells
      have hsz := hc.out.size
      have hJ : Hid (jCommits (l.take (k + 1)) = jCommits (l.take k) ++ (if x.r.kind == 3 then [x.r.txn] else [])) := hid (by rw [take_snoc' hlt, jCommits_snoc, hx.out])
      have hlen : (jCommits (l.take k)).length ≤ 1000 := by
        unfold jCommits
        have := List.length_filter_le (fun x : Ent => x.r.kind == 3) (l.take k)
        simp at this ⊢
        omega
      obtain ⟨J, hJJ⟩ := named (jCommits (l.take k))
      rw [← hJJ.out] at hO hlen
      obtain ⟨kb, hkb⟩ := named (x.r.kind == 3)
      have hkb' := hkb.out.symm
      have hJ2 : Hid (jCommits (l.take (k + 1)) = J ++ (if kb then [x.r.txn] else [])) := hid (by rw [hJ.out, ← hJJ.out, ← hkb.out])
      obtain ⟨ao, co, rfl⟩ := ownsForm hO.out
      clear hE hJ
      cases kb
      · go_wp2_with fail
        go_roundw
        case rel => exact ⟨k + 1, by omega, by go_num, hid (hc.out.alloc _), hid (by rw [hJ2.out]; simpa using World.ownsRow.alloc hO.out _)⟩
        case measure => simp [toN]; omega
      · go_wp2_with (at_builtin; refine step_app1 slInt rfl _ _ rfl (World.ownsRow.alloc (World.ownsRow.alloc hO.out _) _) rfl (wr.heap.size + 1) [.int .i64 x.r.txn] rfl (by rw [show wr.heap.size + 1 = (wr.alloc (.cells (encE (x, .slice a1 x.r.txns.length n1, .slice a2 x.r.pages.length n2)).toArray 32)).heap.size by simp]; exact blk_new _ _) rfl rfl (by simp [Value.oneCell']) (by omega) (by unfold maxLen; omega) (by simp; omega) ?_; intro v5 w5 hv5 hc5 hvo hnil)
        obtain ⟨a5, n5, rfl⟩ := ownsForm hv5
        have HV := hid hv5
        have HC := hid (((hc.out.alloc (.cells (encE (x, .slice a1 x.r.txns.length n1, .slice a2 x.r.pages.length n2)).toArray 32)).alloc (.cells #[.int .i64 x.r.txn] 3)).trans hc5 (fun i hi => .inr (OwnB.ge hO.out i hi).1))
        clear hv5 hc5 hvo hnil
        go_wp2_with fail
        go_roundw
        case rel => exact ⟨k + 1, by omega, by go_num, HC, hid (by rw [hJ2.out]; simpa using HV.out)⟩
        case measure => simp [toN]; omega
    · obtain rfl : k = l.length := by omega
      rw [List.take_length, ← hC.out] at hO
      obtain ⟨ao, co, rfl⟩ := ownsForm hO.out
      go_wp2_with fail
      go_ret
      exact ⟨_, rfl, hO, hc⟩

/-! ### the three records -/
def ur : Rec := ⟨1, 1, 0, 0, 0, 0, 0, ⟨#[0]⟩, ⟨#[97]⟩, [], []⟩
def cr : Rec := ⟨3, 1, 0, 0, 0, 0, 0, ⟨#[]⟩, ⟨#[]⟩, [], []⟩
def dr : Rec := ⟨3, 1, 0, 0, 128, 0, 0, ⟨#[]⟩, ⟨#[]⟩, [], []⟩
def ue : Ent := ⟨128, ur⟩
def ce : Ent := ⟨160, cr⟩
def de : Ent := ⟨160, dr⟩
theorem aw_ok : ∀ x ∈ [ue, ce, de], x.r.txns = [] ∧ x.r.pages = [] ∧ x.r.okk ∧ fits x.at_ := by
  intro x hx
  simp only [List.mem_cons, List.not_mem_nil, or_false] at hx
  rcases hx with rfl | rfl | rfl <;> refine ⟨rfl, rfl, ⟨⟨?_, ?_, ?_, ?_, ?_, ?_, ?_, ?_, ?_, by simp [ue, ce, de, ur, cr, dr], by simp [ue, ce, de, ur, cr, dr]⟩, ?_, ?_⟩, ?_⟩ <;> first | (unfold fits; decide) | (show _ ≤ _; decide)
set_option maxRecDepth 100000 in
theorem aw_has : jHas jNew.pg ur = true := by
  have e1 : jNew.pg.getD (0 : Int).toNat Pg.none = Pg.empty := rfl
  have e2 : Pg.empty.get 0 1 = (⟨#[0]⟩, 0) := by kernel_rfl
  unfold jHas
  rw [if_neg (by decide)]
  show (((jNew.pg.getD (0 : Int).toNat Pg.none).get 0 1).2 == 0 && (((jNew.pg.getD (0 : Int).toNat Pg.none).get 0 1).1.toList == (⟨#[0]⟩ : ByteArray).toList)) = true
  rw [e1, e2]
  simp [ur]
def s1 : JS := ⟨128, [⟨1, 128, 128, [ur]⟩], jPut jNew.pg ur, []⟩
theorem aw_u : jEnt jNew ue = (true, s1) := by
  have h : jOwn { jNew with last := max jNew.last ue.at_ } ue.at_ ue.r = (jHas jNew.pg ur && true, s1) := rfl
  unfold jEnt
  rw [if_pos (.inl rfl), h, aw_has]
  rfl
theorem aw_c : (jEnt s1 ce).1 = false := rfl
theorem aw_d : (jEnt s1 de).1 = true := rfl
theorem aw_f1 : jFaults jNew [ue, ce] = [ce] := by simp only [jFaults]; rw [aw_u]; simp only [if_true]; rw [aw_c]; rfl
theorem aw_f2 : jFaults jNew [ue, de] = [] := by simp only [jFaults]; rw [aw_u]; simp only [if_true]; rw [aw_d]; rfl
theorem aw_c2 : jCommits [ue, de] = [1] := rfl
theorem aw_o : jRows (jRun jNew [ue]) = [(1, 128, 128)] := by
  have : jRun jNew [ue] = s1 := by show (jEnt jNew ue).2 = s1; rw [aw_u]
  rw [this]
  have h : sortI [1] = [1] := by simp [sortI]
  show (sortI [1]).map (jRowOf s1.op) = _
  rw [h]; rfl
def awq : Pg := ⟨0, ⟨(splice (List.replicate 220 0) 0 [97]).toArray⟩⟩
set_option maxRecDepth 100000 in
theorem aw_p : pagesRes ue de = [awq] := by
  unfold pagesRes
  rw [aw_u]
  show jPuts [Pg.empty] [ur] = _
  kernel_rfl
end Go.Proofs.Ytobmaipjbepphaa
