import Derived.Test.YtobmaipjbepphaaJuF
import Derived.Test.YtobmaipjbepphaaKeysJu
namespace Go.Proofs.Ytobmaipjbepphaa
open Go.RowKit Go.ChangeMaps Go.MapKept
set_option linter.unusedVariables false
set_option maxHeartbeats 8000000

theorem wf_of {x : Int} (h : fits x) : (Lit.int .i64 x).wf = true := by
  unfold fits at h
  simp [Lit.wf, IntKind.min, IntKind.max, IntKind.signed, IntKind.bits]
  omega
theorem slRow : SlT Try.prog 27 38 (.agg #[.int .i64 0, .int .i64 0, .int .i64 0]) 3 24 := ⟨Try.underlying27, by kernel_rfl, rfl, by omega⟩
theorem take_map_succ {α β : Type} (f : α → β) {l : List α} {k : Nat} {x : α} (hk : k < l.length) (hx : l[k] = x) : (l.take (k + 1)).map f = (l.take k).map f ++ [f x] := by
  rw [List.take_succ_eq_append_getElem hk, List.map_append, hx]; rfl

theorem jOld_mem {T : List JT} {a n : Int} {t : JT} (h : t ∈ jOld T a n) : t ∈ T ∨ t.txn = n := by
  unfold jOld at h
  split at h
  · exact .inl h
  · rcases List.mem_append.1 h with h | h
    · exact .inl h
    · obtain rfl := List.mem_singleton.1 h; exact .inr rfl
theorem jOld_len (T : List JT) (a n : Int) : (jOld T a n).length ≤ T.length + 1 := by unfold jOld; split <;> simp
theorem jUpd_mem {T : List JT} {t u : JT} (h : u ∈ jUpd T t) : u ∈ T ∨ u = t := by
  unfold jUpd at h
  obtain ⟨x, hx, rfl⟩ := List.mem_map.1 h
  split
  · exact .inr rfl
  · exact .inl hx
theorem jOwn_op (s : JS) (a : Int) (r : Rec) : (∃ t, t.txn = r.txn ∧ (jOwn s a r).2.op = jUpd (jOld s.op a r.txn) t) ∨ (jOwn s a r).2.op = jDel (jOld s.op a r.txn) r.txn := by
  unfold jOwn
  dsimp only
  have h := jGet_txn s.op a r.txn
  split
  · exact .inl ⟨{ jGet s.op a r.txn with last := a, stand := (jGet s.op a r.txn).stand ++ [r] }, h, rfl⟩
  · split
    · exact .inl ⟨{ jGet s.op a r.txn with last := a, stand := (jUndo (jGet s.op a r.txn).stand r).2 }, h, rfl⟩
    · split
      · exact .inr rfl
      · exact .inr rfl
theorem jEnt_op (s : JS) (x : Ent) : (jEnt s x).2.op = s.op ∨ (jEnt s x).2.op = (jOwn { s with last := max s.last x.at_ } x.at_ x.r).2.op := by
  unfold jEnt
  dsimp only
  split
  · exact .inr rfl
  · split
    · exact .inl rfl
    · split
      · exact .inl rfl
      · exact .inl rfl
theorem jEnt_mem {s : JS} {x : Ent} {t : JT} (h : t ∈ (jEnt s x).2.op) : t.txn = x.r.txn ∨ ∃ u ∈ s.op, u.txn = t.txn := by
  rcases jEnt_op s x with e | e
  · rw [e] at h; exact .inr ⟨t, h, rfl⟩
  · rw [e] at h
    rcases jOwn_op { s with last := max s.last x.at_ } x.at_ x.r with ⟨u, hu, e2⟩ | e2
    · rw [e2] at h
      rcases jUpd_mem h with h | rfl
      · rcases jOld_mem h with h | h
        · exact .inr ⟨t, h, rfl⟩
        · exact .inl h
      · exact .inl hu
    · rw [e2] at h
      rcases jOld_mem (List.mem_filter.1 h).1 with h | h
      · exact .inr ⟨t, h, rfl⟩
      · exact .inl h
theorem jEnt_len (s : JS) (x : Ent) : (jEnt s x).2.op.length ≤ s.op.length + 1 := by
  rcases jEnt_op s x with e | e
  · rw [e]; omega
  · rw [e]
    have h := jOld_len s.op x.at_ x.r.txn
    rcases jOwn_op { s with last := max s.last x.at_ } x.at_ x.r with ⟨u, hu, e2⟩ | e2
    · rw [e2]; simpa [jUpd] using h
    · rw [e2]; unfold jDel; exact Nat.le_trans (List.length_filter_le _ _) h
theorem jRun_fits (l : List Ent) (hl : ∀ x ∈ l, fits x.r.txn) : ∀ s : JS, (∀ t ∈ s.op, fits t.txn) → ∀ t ∈ (jRun s l).op, fits t.txn := by
  induction l with
  | nil => intro s h; exact h
  | cons x l ih =>
    intro s h
    refine ih (fun y hy => hl y (List.mem_cons_of_mem _ hy)) _ fun t ht => ?_
    rcases jEnt_mem ht with e | ⟨u, hu, e⟩
    · rw [e]; exact hl x List.mem_cons_self
    · rw [← e]; exact h u hu
theorem jRun_len (l : List Ent) : ∀ s : JS, (jRun s l).op.length ≤ s.op.length + l.length := by
  induction l with
  | nil => intro s; exact Nat.le_refl _
  | cons x l ih =>
    intro s
    have := ih (jEnt s x).2
    have h2 := jEnt_len s x
    show (jRun (jEnt s x).2 l).op.length ≤ _
    simp only [List.length_cons]
    omega

def jRowOf (T : List JT) (n : Int) : Row3 := match jFind T n with | some t => (t.txn, t.first, t.last) | none => (0, 0, 0)
def jRows (s : JS) : List Row3 := (sortI (s.op.map (·.txn))).map (jRowOf s.op)

set_option maxRecDepth 100000 in
theorem open_calls (v : Value) (l : List Ent) (w : World) (hv : Ents w v l) (hl : l.length ≤ 1000) (hk : ∀ x ∈ l, x.r.okk) (R : List Row3) (hR : Hid (R = jRows (jRun jNew l))) :
    Calls Try.prog 10 #[v] w fun e w' => ∃ vo, e = .returned vo ∧ Hid (w'.ownsRow w.heap.size 38 3 vo R.length (R.flatMap encTx)) ∧ Hid (Chg NoB w w') := by
  obtain ⟨a, c, rfl, h1, h2, h3⟩ := hv
  unfold maxLen at h2
  have H3 := hid h3
  have HKK := hid hk
  clear h3 hk
  go_enter Try.func10, Try.ntmps10
  go_wp2_with (go_at_call 16; refine (begin_calls w).mono ?_; rintro en w1 ⟨p, ro, rb, rfl, hJ1, hc1, g1, g2, g3⟩)
  have HI : Hid (FaI w w1 p ro rb [] jNew 0 (.slice none 0 0) []) := hid ⟨hJ1, OwnE.nil _ _ _, hc1, fun i hi => by
    rcases hi with rfl | rfl | rfl | ⟨e, he, _⟩
    · exact g1
    · exact g3
    · exact g2
    · simp at he, fun i hi => by simp [OwnB, Value.ownBlock] at hi⟩
  clear hJ1 hc1 g1 g2 g3
  go_loopw [10] (fun i wr => ∃ (k : Nat) (E : List JE), k ≤ l.length ∧ i = .int .i64 k ∧ Hid (FaI w wr p ro rb E (jRun jNew (l.take k)) k (.slice none 0 0) [])) (fun i _ => l.length - toN i)
  case atStart => exact ⟨0, [], by omega, rfl, by simpa [jRun, jFaults] using HI⟩
  case round =>
    obtain ⟨k, E, hkl, rfl, hI⟩ := hrel
    clear HI
    by_cases hlt : k < l.length
    · obtain ⟨x, b, off, v1, v2, hx, rfl, ht, hok, hE, hbl, hone⟩ := Ents.at H3.out hI.out.chg k hlt
      have hxk : x.r.okk := HKK.out x (by rw [← hx.out]; exact List.getElem_mem hlt)
      obtain ⟨sk, hsk⟩ := named (jRun jNew (l.take k))
      rw [← hsk.out] at hI
      obtain ⟨⟨ob, sb⟩, hob⟩ := named (jEnt sk x)
      have hrun : Hid (jRun jNew (l.take (k + 1)) = sb) := hid (by rw [take_snoc' hlt, jRun_snoc, hx.out, ← hsk.out, ← hob.out])
      have hbE : ¬ juFp p ro rb E b := fun hj => by have := hI.out.ge b hj; omega
      have HE := hid hE
      clear ht hE
      go_wp2_with (go_at_call 17; refine (entry_calls p ro rb E sk af0 k b (off + k * 12) x v1 v2 wr hI.out.at_ HE.out hbE hxk hone (by omega) (fun _ => rfl) _ _ hob).mono ?_; rintro en w2 ⟨rfl, E', hI2⟩)
      go_roundw
      case rel => exact ⟨k + 1, E', by omega, by go_num, by rw [hrun.out]; exact hid (hI.out.entry hI2.out)⟩
      case measure => simp [toN]; omega
    · obtain rfl : k = l.length := by omega
      rw [List.take_length] at hI
      obtain ⟨st, hst⟩ := named (jRun jNew l)
      rw [← hst.out] at hI
      have hfit : Hid (∀ x ∈ E.map JI.row, (Lit.int .i64 x.1).wf = true) := hid (fun x hx => by
        obtain ⟨e, he, rfl⟩ := List.mem_map.1 hx
        have h5 : e.s ∈ st.op := by rw [← hI.out.at_.es]; exact List.mem_map.2 ⟨e, he, rfl⟩
        rw [hst.out] at h5
        exact wf_of (jRun_fits l (fun y hy => (HKK.out y hy).1.2.1) jNew (fun t ht => absurd ht List.not_mem_nil) _ h5))
      have hlen : (E.map JI.row).length ≤ 1000000 := by
        have h5 := jRun_len l jNew
        rw [← hst.out, ← hI.out.at_.es] at h5
        simp only [List.length_map] at h5 ⊢
        have h6 : jNew.op.length = 0 := rfl
        omega
      obtain ⟨ks, hks⟩ := named (sortI ((E.map JI.row).map (·.1)))
      have p1 := hI.out.at_.cells.2.1
      go_wp2_with (first
        | (go_at_call 20; refine (keys_callsJu _ _).mono ?_; rintro e w2 ⟨rfl, rfl⟩)
        | (go_at_call 19; refine (sorted_callsJu ro wr.heap.size (E.map JI.row) _ (blk_new _ _) (hI.out.at_.pt.map.chg ((Chg.refl NoB wr).alloc _) nob) hfit.out hlen).mono ?_; rintro e w2 ⟨vk, rfl, ho2, hc2⟩; rw [← hks.out] at ho2; obtain ⟨a2, n2, rfl⟩ := ownsForm ho2; replace ho2 := hid ho2; replace hc2 := hid hc2))
      have hI2 := hid (hI.out.keep0 (((Chg.refl NoB wr).alloc (.cells #[.map (some ro)] 55)).trans' hc2.out))
      have hkl : ks.length ≤ 1000000 := by rw [hks.out, sortI_len, List.length_map]; exact hlen
      have hkm : Hid (∀ m ∈ ks, ∃ e, E.find? (fun e => JI.key e == m) = some e) := hid (fun m hm => by
        rw [hks.out] at hm
        obtain ⟨x, hx, rfl⟩ := List.mem_map.1 (sortI_mem.1 hm)
        obtain ⟨e, he, rfl⟩ := List.mem_map.1 hx
        cases h : E.find? (fun f => JI.key f == (JI.row e).1) with
        | none => have := List.find?_eq_none.1 h e he; simp [TI.row] at this
        | some f => exact ⟨f, rfl⟩)
      obtain ⟨_, _, ee, hk1, hk2, hrd⟩ := Rd.ints_of ho2.out
      cases ee
      have HRD := hid hrd
      have hres : Hid (R = ks.map (jRowOf st.op)) := hid (by
        rw [hR.out, ← hst.out, hks.out]
        unfold jRows
        rw [← hI.out.at_.es, List.map_map, List.map_map]; rfl)
      clear hrd hI hc2 p1 hk1
      go_loopw [2, 26] (fun o i wr => ∃ k : Nat, k ≤ ks.length ∧ i = .int .i64 k ∧ Hid (Chg NoB w2 wr) ∧ Hid (wr.ownsRow w2.heap.size 38 3 o k (((ks.take k).map (jRowOf st.op)).flatMap encTx))) (fun _ i _ => ks.length - toN i)
      case atStart => exact ⟨0, by omega, rfl, Chg.refl _ _, World.ownsRow_nil _ _ _ _⟩
      case round =>
        obtain ⟨k, hk, rfl, hC3, hO⟩ := hrel
        obtain ⟨a3, n3, rfl⟩ := ownsForm hO.out
        have hA3 := hid (hI2.out.at_.keep0 hC3.out)
        have p1 := hA3.out.cells.2.1
        by_cases hlt : k < ks.length
        · obtain ⟨kb, ko, rfl, g0⟩ := Rd.int_at HRD.out k hlt
          replace g0 := hC3.out.cell g0 nob
          obtain ⟨m, hm⟩ := named (ks[k])
          rw [← hm.out] at g0
          obtain ⟨e, he⟩ := hkm.out m (by rw [hm.out]; exact List.getElem_mem _)
          have hem := List.mem_of_find?_eq_some he
          have hek := hA3.out.pt.ok e hem
          have hmg : Hid (mget (E.map JI.row) m = some e.b) := hid (by
            rcases hA3.out.pt.find m with ⟨_, _, h5⟩ | ⟨i, f, _, _, h4, h5⟩
            · rw [he] at h5; cases h5
            · rw [he] at h5; cases h5; exact h4)
          have hrow : Hid (jRowOf st.op m = (e.s.txn, e.s.first, e.s.last)) := hid (by
            unfold jRowOf
            rw [← hA3.out.es, jFind_find, he]; rfl)
          have HS := hid (take_map_succ (jRowOf st.op) hlt hm.out.symm)
          have d0 : wr.cell? ⟨e.b, 0, none⟩ = some (.int .i64 e.s.txn) := by rw [cell_blk hek.1]; rfl
          have d1 : wr.cell? ⟨e.b, 1, none⟩ = some (.int .i64 e.s.first) := by rw [cell_blk hek.1]; rfl
          have d2 : wr.cell? ⟨e.b, 2, none⟩ = some (.int .i64 e.s.last) := by rw [cell_blk hek.1]; rfl
          have hsz3 := hC3.out.size
          clear he hem hek
          go_wp2_with (first
            | (at_lookup; refine step_lookup hA3.out.pt.map rfl _ _ 55 3 56 false rfl Try.underlying55 Try.underlying3 (zero_ptr _) m rfl rfl ?_; rw [hmg.out]; simp only [Option.map_some, Option.getD_some, Bool.false_eq_true, if_false, ptrV])
            | (at_builtin; refine step_app1 slRow rfl _ _ rfl (World.ownsRow.alloc hO.out _) rfl wr.heap.size [.int .i64 e.s.txn, .int .i64 e.s.first, .int .i64 e.s.last] rfl (blk_new _ _) rfl rfl (by simp [Value.oneCell']) ?_ ?_ ?_ ?_))
          case _ => omega
          case _ => unfold maxLen; omega
          case _ => first | omega | (simp; omega)
          intro v5 w5 hv5 hc5 hvo hnil
          have C5 : Hid (Chg NoB w2 w5) := hid ((hC3.out.alloc (.cells #[.int .i64 e.s.txn, .int .i64 e.s.first, .int .i64 e.s.last] 38)).trans hc5 fun i hi => .inr (OwnB.ge hO.out i hi).1)
          have HV5 := hid hv5
          clear hv5 hc5 hvo hnil d0 d1 d2
          go_wp2_with fail
          go_roundw
          case rel =>
            refine ⟨k + 1, by omega, by go_num, C5, hid ?_⟩
            rw [HS.out, hrow.out]
            simpa [encTx] using HV5.out
          case measure => simp [toN]; omega
        · obtain rfl : k = ks.length := by omega
          rw [List.take_length, ← hres.out] at hO
          go_wp2_with fail
          go_ret
          refine ⟨_, rfl, hid ?_, hid (hI2.out.chg.trans' hC3.out)⟩
          have hlen : R.length = ks.length := by rw [hres.out]; simp
          rw [hlen]
          exact Go.World.ownsRow.mono hO.out hI2.out.chg.size
end Go.Proofs.Ytobmaipjbepphaa
