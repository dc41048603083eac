import Derived.Test.YtghklbflbodajaaA7
import Derived.Test.YtghklbflbodajaaA3
import Derived.Lib.Builder
import Derived.Lib.AppendStr
import Derived.Lib.UnsafeStr
import Derived.Laws.Externs
namespace Go.Proofs.Ytghklbflbodajaa
open Go.RowKit Go.ChangeMaps Go.MapKept
attribute [local go_sem] Go.Oper.rdK
set_option linter.unusedVariables false
set_option linter.unusedSimpArgs false
set_option linter.unnecessarySimpa false
set_option maxHeartbeats 8000000

/-- Block b, of type T, begins with a builder that holds l. -/
structure BdAt (T : TypeId) (w : World) (b base : Nat) (v : Value) (l : List UInt8) : Prop where
  hd : ∃ p, (p = none ∨ p = some ⟨b, 0, none⟩) ∧ w.heap[b]? = some (.cells #[.pointer p, v] T (0, 0))
  own : w.ownsRow base 5 1 v l.length (Lib.byteCells l)
  ne : ¬ OwnB v b
theorem BdAt.keep {T : TypeId} {w w' : World} {b base : Nat} {v : Value} {l : List UInt8} {S : Nat → Prop} (h : BdAt T w b base v l) (hc : Chg S w w') (h1 : ¬ S b) (h2 : ∀ k, OwnB v k → ¬ S k) : BdAt T w' b base v l := by
  obtain ⟨p, hp, hb⟩ := h.hd
  exact ⟨⟨p, hp, hc.heap hb h1⟩, ownsRow.chg h.own hc h2, h.ne⟩
theorem BdAt.keep0 {T : TypeId} {w w' : World} {b base : Nat} {v : Value} {l : List UInt8} (h : BdAt T w b base v l) (hc : Chg NoB w w') : BdAt T w' b base v l := h.keep hc nob fun _ _ => nob
theorem BdAt.lt {T : TypeId} {w : World} {b base : Nat} {v : Value} {l : List UInt8} (h : BdAt T w b base v l) : b < w.heap.size := by
  obtain ⟨p, _, hb⟩ := h.hd
  exact lt_of_block hb
/-- What a builder's writing touches. -/
def BdB (b : Nat) (v : Value) : Nat → Prop := fun k => k = b ∨ OwnB v k
def BdT (T : TypeId) : Prop := liesAt Try.prog Try.prog.depth T (2 / Try.prog.cellsOf T) 0 84 1 = true
theorem slByte : SlT Try.prog 64 5 (.int .u8 0) 1 1 := ⟨Try.underlying64, by kernel_rfl, rfl, by decide⟩
theorem sizeBd : (Try.prog.info? 84).map (·.size) = some 2 := by kernel_rfl

set_option maxRecDepth 100000 in
theorem copyCheck_calls (T : TypeId) (hT : BdT T) (b base : Nat) (v : Value) (l : List UInt8) (w : World) (h : BdAt T w b base v l) :
    Calls Try.prog 51 #[.pointer (some ⟨b, 0, none⟩)] w fun e w' => e = .returned (.tuple #[]) ∧ w'.heap[b]? = some (.cells #[.pointer (some ⟨b, 0, none⟩), v] T (0, 0)) ∧ Chg (OneB b) w w' ∧ w'.heap.size = w.heap.size := by
  obtain ⟨j, hj, hjs⟩ := Option.map_eq_some_iff.1 sizeBd
  obtain ⟨p, hp, hb⟩ := h.hd
  have c0 : w.cell? ⟨b, 0, none⟩ = some (.pointer p) := by rw [cell_blk hb]; rfl
  have f0 : w.frozen? ⟨b, 0, none⟩ = false := frozen_blk hb 0
  have hsh : w.shape? b = some (T, 2) := by simp [World.shape?, hb]
  rcases hp with rfl | rfl
  · have hset := blk_setCell hb 0 (.pointer (some ⟨b, 0, none⟩))
    have HB := hid hset
    clear hb hset h
    go_enter Try.func51, Try.ntmps51
    go_wp2
    rw [Lib.run_to_unsafe w ⟨b, 0, none⟩ Try.underlying82 Try.underlying143 hj (by rw [hjs]; decide) hsh (Nat.zero_lt_succ 1)]
    simp only [Result.andThen]
    rw [Oper.upon_value]
    go_wp2
    rw [run_callFunc_extern Try.func63 (by kernel_rfl) (by kernel_rfl) (by kernel_rfl) (e := Extern.AbiNoEscape.same) (by kernel_rfl)]
    rw [Lib.run_noEscape]
    simp only [Result.andThen]
    rw [Oper.upon_value]
    go_wp2
    rw [Lib.run_from_unsafe w ⟨b, 0, none⟩ Try.underlying143 Try.underlying82 hj hsh hT]
    simp only [Result.andThen]
    rw [Oper.upon_value]
    go_wp2
    go_end0
    exact ⟨rfl, by simpa using HB.out, (Chg.refl _ _).setCell (.inl (OneB.self b)) _, by simp [World.setCell]⟩
  · have HB := hid hb
    clear hb h
    go_enter Try.func51, Try.ntmps51
    go_wp2
    rw [Lib.run_neq_ptr_same w _ Try.underlying82 hj]
    go_wp2
    go_end0
    exact ⟨rfl, HB.out, Chg.refl _ _, rfl⟩

set_option maxRecDepth 100000 in
theorem writeByte_calls (T : TypeId) (hT : BdT T) (b base : Nat) (v : Value) (l : List UInt8) (x : UInt8) (w : World) (h : BdAt T w b base v l) (hl : l.length ≤ 1000000) (hbase : base ≤ w.heap.size) :
    Calls Try.prog 31 #[.pointer (some ⟨b, 0, none⟩), .int .u8 x.toNat] w fun e w' => e = .returned .nilIface ∧ ∃ v', Hid (BdAt T w' b base v' (l ++ [x])) ∧ Hid (Chg (BdB b v) w w') ∧ ∀ i, OwnB v' i → OwnB v i ∨ w.heap.size ≤ i := by
  have hcc := copyCheck_calls T hT b base v l w h
  have HO := hid h.own
  have HNE := hid h.ne
  have hbl := h.lt
  obtain ⟨ao, co, rfl⟩ := ownsForm h.own
  clear h
  go_enter Try.func31, Try.ntmps31
  go_wp2_with (first
    | (go_at_call 51; refine hcc.mono ?_; rintro e w1 ⟨rfl, hb1, hc1, hs1⟩; have c0 := cell_blk hb1 0; have c1 := cell_blk hb1 1; have HB1 := hid hb1; have HC1 := hid hc1; have HS1 := hid hs1; have hO1 := hid (ownsRow.chg HO.out hc1 (fun k hk e => HNE.out (by have h' : k = b := e; rw [← h']; exact hk))); clear hb1 hc1 hs1)
    | (at_builtin; refine step_app1 slByte rfl _ _ rfl (World.ownsRow.alloc hO1.out _) rfl w1.heap.size [.int .u8 x.toNat] rfl (blk_new _ _) rfl rfl (by simp [Value.oneCell']) (by omega) (by unfold maxLen; omega) (by have := HS1.out; simp; omega) ?_; intro v5 w5 hv5 hc5 hvo hnil; have hb5 := hc5.heap (blk_alloc HB1.out _) (fun e => HNE.out e); have d0 := cell_blk hb5 0; have d1 := cell_blk hb5 1; have f1 := frozen_blk hb5 1; have HV5 := hid hv5; obtain ⟨a5, n5, rfl⟩ := ownsForm hv5; have HB5 := hid hb5; have HC5 := hid hc5; have HVO := hid hvo; clear hv5 hc5 hb5 hvo))
  go_ret
  have hnb : ¬ OwnB (.slice a5 (l.length + 1) n5) b := fun e => by
    rcases HVO.out b e with h1 | h1
    · exact HNE.out h1
    · have := HS1.out; simp at h1; omega
  have hcc2 : Chg (BdB b (.slice ao l.length co)) w w5 := (HC1.out.mono (T := BdB b (.slice ao l.length co)) (fun i e => .inl (.inl e))).trans' (((Chg.refl _ _).alloc _).trans' (HC5.out.mono (T := BdB b (.slice ao l.length co)) (fun i e => .inl (.inr e))))
  refine ⟨rfl, .slice a5 (l.length + 1) n5, hid ⟨⟨_, .inr rfl, by simpa using blk_setCell HB5.out 1 (.slice a5 (l.length + 1) n5)⟩, ?_, hnb⟩, hid (hcc2.setCell (.inl (.inl rfl)) _), fun i hi => ?_⟩
  · have h9 := ownsRow.chg HV5.out ((Chg.refl (OneB b) w5).setCell (p := ⟨b, 1, none⟩) (.inl rfl) (.slice a5 (l.length + 1) n5)) (fun k hk e => hnb (by have h' : k = b := e; rw [← h']; exact hk))
    rw [List.length_append, Lib.byteCells_append]
    exact h9
  · rcases HVO.out i hi with h1 | h1
    · exact .inl h1
    · have := HS1.out; simp at h1; exact .inr (by omega)

theorem Chg.freeze {S : Nat → Prop} {a w : World} (h : Chg S a w) {p : Addr} (hp : S p.block ∨ a.heap.size ≤ p.block) (n : Nat) : Chg S a (w.freeze p n) := by
  unfold World.freeze
  split
  · exact h
  · refine h.trans (T := OneB p.block) ⟨rfl, rfl, rfl, by simp, fun k _ hk => ?_⟩ fun i hi => by cases hi; exact hp
    have hk' : ¬ p.block = k := fun e => hk e.symm
    simp [Array.getElem?_modify, hk']
theorem freeze_cell (w : World) (p : Addr) (n : Nat) (q : Addr) : (w.freeze p n).cell? q = w.cell? q := by
  unfold World.freeze
  split
  · rfl
  · unfold World.cell?
    simp only [Array.getElem?_modify]
    by_cases h : p.block = q.block
    · simp only [h, if_true]
      cases hb : w.heap[q.block]? with
      | none => rfl
      | some o => cases o <;> rfl
    · simp only [h, if_false]
/-- append(bytes, string...), and where its result lies. -/
theorem run_appS {P : Program} {w : World} {t u e : TypeId} {bytes : Nat} (T : SlT P t e (.int .u8 0) 1 1) (hu : P.underlying u = some .string) (ty : TypeId) {base n : Nat} {v : Value} {xs : List Value} (hown : w.ownsRow base e 1 v n xs) (s : ByteArray)
    (hn : n + s.size ≤ 140737488355328) (hbase : base ≤ w.heap.size) :
    ∃ v' w', (Builtin.append_ #[t, u] ty #[v, .string s]).run P w = .ok v' w' ∧ w'.ownsRow base e 1 v' (n + s.size) (xs ++ Lib.byteCells s.data.toList) ∧ Chg (OwnB v) w w' ∧ (∀ i, OwnB v' i → OwnB v i ∨ w.heap.size ≤ i) := by
  obtain ⟨i, hi, hz0, hz1, hz2⟩ := info_parts T.inf
  obtain ⟨v', w', hr, h2, h3, h4⟩ := Lib.run_append_own_string (P := P) w base t u ty e i T.und hu hi hz0 hz1 hz2 v n xs hown s (by unfold maxLen; omega) hn hbase
  refine ⟨v', w', hr, h2, Chg.of_grown h3 fun k hk => .inl hk, ?_⟩
  rcases hown.2 with ⟨rfl, rfl⟩ | ⟨g, cap, cur, rfl, hbg, hg, hnc, hcm, hcs, htake⟩
  · by_cases hm : s.size = 0
    · have := h4.2 ⟨rfl, hm⟩
      subst this
      exact fun k hk => .inl hk
    · have hr2 := run_append_nil_string (P := P) w t u ty e i (.int .u8 0) T.und hu hi hz0 s (by omega) (by omega) (by rw [hz2]; omega)
      rw [hr] at hr2
      injection hr2 with e1 _
      subst e1
      intro k hk
      simp [OwnB, Value.ownBlock] at hk
      exact .inr (by omega)
  · by_cases hroom : n + s.size ≤ cap
    · have hcs' : cur.size = cap := by simpa using hcs
      have hr2 := Lib.run_append_room_string (P := P) w t u ty e i T.und hu hi hz1 g n cap cur hg s hroom (by omega)
      rw [hr] at hr2
      injection hr2 with e1 _
      subst e1
      exact fun k hk => .inl hk
    · have holds : ∀ j u, xs[j]? = some u → w.cell? ((⟨g, 0, none⟩ : Addr).add j) = some u := hown.cells (g := g) rfl
      have hxl : xs.length = n := by simpa using hown.1
      have hr2 := Lib.run_append_grow_string (P := P) w t u ty e i (.int .u8 0) T.und hu hi hz0 ⟨g, 0, none⟩ n cap xs (by rw [hz1]; simpa using hxl) holds s (by omega) (by omega) (by rw [hz2]; exact growslice_fits (by omega) (by omega))
      rw [hr] at hr2
      injection hr2 with e1 _
      subst e1
      intro k hk
      simp [OwnB, Value.ownBlock] at hk
      exact .inr (by omega)
theorem step_appS {P : Program} {w : World} {ops : Array Oper} {rest : List Oper} {o : Oper} {a : Act} {Q : Exit → Act → World → Prop} {t u e : TypeId} (T : SlT P t e (.int .u8 0) 1 1) (hu : P.underlying u = some .string) (hg : o.guard = none) (s x : Operand) (hop : o.op = .call { callee := .builtin .append, args := #[s, x], argTypes := #[t, u] })
    {base n : Nat} {v : Value} {xs : List Value} (hown : w.ownsRow base e 1 v n xs) (hs : a.eval s = v) (str : ByteArray) (hx : a.eval x = .string str) (hn : n + str.size ≤ 140737488355328) (hbase : base ≤ w.heap.size)
    (hK : ∀ v' w', w'.ownsRow base e 1 v' (n + str.size) (xs ++ Lib.byteCells str.data.toList) → Chg (OwnB v) w w' → (∀ i, OwnB v' i → OwnB v i ∨ w.heap.size ≤ i) → wpList P ops Q rest (a.put o.dst v') w') : wpList P ops Q (o :: rest) a w := by
  obtain ⟨v', w', hr, h2, h3, h4⟩ := run_appS (bytes := 1) T hu o.type hown str hn hbase
  refine step_run (wanted_none hg) ?_ (hK v' w' h2 h3 h4)
  simp [execOp, hop, resolve, invoke, builtin, hs, hx, hr, Result.andThen]

set_option maxRecDepth 100000 in
theorem writeString_calls (T : TypeId) (hT : BdT T) (b base : Nat) (v : Value) (l : List UInt8) (x : ByteArray) (w : World) (h : BdAt T w b base v l) (hl : l.length ≤ 1000000) (hx : x.size ≤ 1000000) (hbase : base ≤ w.heap.size) :
    Calls Try.prog 30 #[.pointer (some ⟨b, 0, none⟩), .string x] w fun e w' => e = .returned (.tuple #[.int .i64 x.size, .nilIface]) ∧ ∃ v', Hid (BdAt T w' b base v' (l ++ x.data.toList)) ∧ Hid (Chg (BdB b v) w w') ∧ ∀ i, OwnB v' i → OwnB v i ∨ w.heap.size ≤ i := by
  have hcc := copyCheck_calls T hT b base v l w h
  have HO := hid h.own
  have HNE := hid h.ne
  have hbl := h.lt
  obtain ⟨ao, co, rfl⟩ := ownsForm h.own
  obtain ⟨xn, hxn⟩ := named x.size
  have hxl : Hid (x.data.toList.length = xn) := hid (by rw [hxn.out]; exact (Lib.size_eq x).symm)
  clear h
  go_enter Try.func30, Try.ntmps30
  go_wp2_with (first
    | (go_at_call 51; refine hcc.mono ?_; rintro e w1 ⟨rfl, hb1, hc1, hs1⟩; have c0 := cell_blk hb1 0; have c1 := cell_blk hb1 1; have HB1 := hid hb1; have HC1 := hid hc1; have HS1 := hid hs1; have hO1 := hid (ownsRow.chg HO.out hc1 (fun k hk e => HNE.out (by have h' : k = b := e; rw [← h']; exact hk))); clear hb1 hc1 hs1)
    | (at_builtin; refine step_appS slByte Try.underlying9 rfl _ _ rfl hO1.out rfl x rfl (by omega) (by have := HS1.out; omega) ?_; intro v5 w5 hv5 hc5 hvo; have hb5 := hc5.heap HB1.out (fun e => HNE.out e); have d0 := cell_blk hb5 0; have d1 := cell_blk hb5 1; have f1 := frozen_blk hb5 1; have HV5 := hid hv5; obtain ⟨a5, n5, rfl⟩ := ownsForm hv5; have HB5 := hid hb5; have HC5 := hid hc5; have HVO := hid hvo; clear hv5 hc5 hb5 hvo))
  go_ret2
  have hnb : ¬ OwnB (.slice a5 (l.length + x.size) n5) b := fun e => by
    rcases HVO.out b e with h1 | h1
    · exact HNE.out h1
    · have := HS1.out; omega
  have hcc2 : Chg (BdB b (.slice ao l.length co)) w w5 := (HC1.out.mono (T := BdB b (.slice ao l.length co)) (fun i e => .inl (.inl e))).trans' (HC5.out.mono (T := BdB b (.slice ao l.length co)) (fun i e => .inl (.inr e)))
  refine ⟨rfl, .slice a5 (l.length + x.size) n5, hid ⟨⟨_, .inr rfl, by simpa using blk_setCell HB5.out 1 (.slice a5 (l.length + x.size) n5)⟩, ?_, hnb⟩, hid (hcc2.setCell (.inl (.inl rfl)) _), fun i hi => ?_⟩
  · have h9 := ownsRow.chg HV5.out ((Chg.refl (OneB b) w5).setCell (p := ⟨b, 1, none⟩) (.inl rfl) (.slice a5 (l.length + x.size) n5)) (fun k hk e => hnb (by have h' : k = b := e; rw [← h']; exact hk))
    rw [List.length_append, Lib.byteCells_append, hxl.out, hxn.out]
    exact h9
  · rcases HVO.out i hi with h1 | h1
    · exact .inl h1
    · have := HS1.out; exact .inr (by omega)
set_option maxRecDepth 100000 in
theorem bString_calls (T : TypeId) (b base : Nat) (v : Value) (l : List UInt8) (w : World) (h : BdAt T w b base v l) (h0 : l ≠ []) :
    Calls Try.prog 33 #[.pointer (some ⟨b, 0, none⟩)] w fun e w' => e = .returned (.string ⟨l.toArray⟩) ∧ Chg (OwnB v) w w' := by
  obtain ⟨p, hp, hbk⟩ := h.hd
  have hown := h.own
  have hl0 : l.length ≠ 0 := by simpa using h0
  obtain ⟨g, cap, cur, rfl, hbg, hg, hnc, hcm, hcs, htake⟩ : ∃ g cap cur, v = .slice (some ⟨g, 0, none⟩) l.length cap ∧ base ≤ g ∧ w.heap[g]? = some (.cells cur 5 (0, 0)) ∧ l.length ≤ cap ∧ cap ≤ maxLen ∧ cur.size = cap * 1 ∧ cur.toList.take (l.length * 1) = Lib.byteCells l := by
    rcases hown.2 with ⟨_, hz⟩ | ⟨g, cap, cur, hv, r⟩
    · exact absurd hz hl0
    · exact ⟨g, cap, cur, hv, r⟩
  have c1 : w.cell? ⟨b, 1, none⟩ = some (.slice (some ⟨g, 0, none⟩) l.length cap) := by
    have : w.heap[b]? = some (.cells #[.pointer p, .slice (some ⟨g, 0, none⟩) l.length cap] T (0, 0)) := hbk
    rw [cell_blk this]; rfl
  have hSD : (Builtin.unsafeSliceData_ #[64] 114 #[.slice (some ⟨g, 0, none⟩) l.length cap]).run Try.prog w.drew = .ok (.pointer (some ⟨g, 0, none⟩)) w.drew :=
    Lib.run_unsafeSliceData_row _ _ _ _ _ _ (by omega)
  have hUS : (Builtin.unsafeString_ #[114, 3] 9 #[.pointer (some ⟨g, 0, none⟩), .int .i64 l.length]).run Try.prog w.drew = .ok (.string ⟨l.toArray⟩) (w.drew.freeze ⟨g, 0, none⟩ l.length) := by
    refine Lib.run_unsafeString_row w.drew 114 3 9 5 Try.underlying114 (by kernel_rfl) g cur.size (by have hg' : w.drew.heap[g]? = some (.cells cur 5 (0, 0)) := hg; simp [World.shape?, hg']) l h0 (by omega) (by unfold maxLen at hcm; omega) ?_
    intro j x hx
    exact hown.cells (g := g) rfl j (.int .u8 x.toNat) (by simp [Lib.byteCells, hx])
  have hfin : Chg (OwnB (.slice (some ⟨g, 0, none⟩) l.length cap)) w (w.drew.freeze ⟨g, 0, none⟩ l.length) := (Chg.refl _ _).drew.freeze (.inl (by simp [OwnB, Value.ownBlock])) _
  clear hown hg hcs htake h hbk
  go_enter Try.func33, Try.ntmps33
  go_wp2
  refine wp_region_ord 12 (.rd 0 (.rd 1 (.rd 2 (.rd 3 (.rd 5 (.rd 6 (.rd 7 (.rd 8 (.rd 9 (.one 4 (.one 10 (.rd 11 (.done))))))))))))) (Same w) (by kernel_rfl) (by kernel_rfl) (by kernel_rfl) (by kernel_rfl) (by kernel_rfl) (fun _ _ d _ _ h => by cases d <;> exact h) (Same.of (Chg.refl _ _).drew) (fun hS0 => ?_)
  refine wpOrd_rd rfl rfl (by first | decide | simp) (by assumption) (fun w' hw' K hK => by ((try unfold Same at hw'); (try go_split_ands); go_simp; exact hK)) ?_
  refine wpOrd_rd rfl rfl (by first | decide | simp) (by assumption) (fun w' hw' K hK => by ((try unfold Same at hw'); (try go_split_ands); go_simp; exact hK)) ?_
  refine wpOrd_rd rfl rfl (by first | decide | simp) (by assumption) (fun w' hw' K hK => by ((try unfold Same at hw'); (try go_split_ands); go_simp; exact hK)) ?_
  refine wpOrd_rd rfl rfl (by first | decide | simp) (by assumption) (fun w' hw' K hK => by ((try unfold Same at hw'); (try go_split_ands); go_simp; exact hK)) ?_
  refine wpOrd_rd rfl rfl (by first | decide | simp) (by assumption) (fun w' hw' K hK => by ((try unfold Same at hw'); (try go_split_ands); go_simp; exact hK)) ?_
  refine wpOrd_rd rfl rfl (by first | decide | simp) (by assumption) (fun w' hw' K hK => by ((try unfold Same at hw'); (try go_split_ands); go_simp; exact hK)) ?_
  refine wpOrd_rd rfl rfl (by first | decide | simp) (by assumption) (fun w' hw' K hK => by ((try unfold Same at hw'); (try go_split_ands); go_simp; exact hK)) ?_
  refine wpOrd_rd rfl rfl (by first | decide | simp) (by assumption) (fun w' hw' K hK => by ((try unfold Same at hw'); (try go_split_ands); go_simp; exact hK)) ?_
  refine wpOrd_rd rfl rfl (by first | decide | simp) (by assumption) (fun w' hw' K hK => by ((try unfold Same at hw'); (try go_split_ands); go_simp; exact hK)) ?_
  refine wpOrd_do rfl ?_
  (first | refine wpList_plain rfl (fun K hK => ?_) | refine wpList_step (fun K hK => ?_))
  go_simp
  refine hK _ _ ?_
  clear hK K
  (try dsimp only [Act.put])
  refine wpOrd_done (Same.of (Chg.refl NoB w).drew) (fun hS1 => ?_)
  refine wpOrd_do rfl ?_
  (first | refine wpList_plain rfl (fun K hK => ?_) | refine wpList_step (fun K hK => ?_))
  go_simp
  refine hK _ _ ?_
  clear hK K
  (try dsimp only [Act.put])
  refine wpOrd_done ((fun p hp => by rw [freeze_cell]; rfl)) (fun hS2 => ?_)
  refine wpOrd_rd rfl rfl (by first | decide | simp) (by assumption) (fun w' hw' K hK => by ((try unfold Same at hw'); (try go_split_ands); go_simp; exact hK)) ?_
  refine wpOrd_nil ?_
  go_wp2
  go_ret
  exact ⟨rfl, hfin⟩
end Go.Proofs.Ytghklbflbodajaa
