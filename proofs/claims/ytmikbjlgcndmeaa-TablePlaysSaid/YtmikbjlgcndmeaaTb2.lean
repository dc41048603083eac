import Derived.Test.YtmikbjlgcndmeaaTb1
namespace Go.Proofs.Ytmikbjlgcndmeaa
open Go.RowKit Go.ChangeMaps Go.MapKept
set_option linter.unusedVariables false
set_option linter.unusedSimpArgs false
set_option linter.unnecessarySimpa false

theorem mput_none {ν : Type} {m : List (Int × ν)} {k : Int} {v : ν} (h : mget m k = none) : mput m k v = m ++ [(k, v)] := by
  have : m.any (fun p => p.1 == k) = false := by
    unfold mget at h
    rw [List.any_eq_false]
    intro x hx
    have h1 := List.find?_eq_none.1 (Option.map_eq_none_iff.1 h) x hx
    simpa using h1
  simp [mput, this]

theorem mapLen {w : World} {p r : Nat} {E : List TxE} (h : TabAt w p r E) : ∃ es clock, w.heap[r]? = some (.map es clock) ∧ es.size = E.length := by
  obtain ⟨es, clock, h1, h2, h3⟩ := h.map
  refine ⟨es, clock, h1, ?_⟩
  have := congrArg List.length h3
  simpa using this

set_option maxRecDepth 100000 in
theorem tabBegin (p r : Nat) (E : List TxE) (n : Int) (w : World) (h : TabAt w p r E) (res : Int) (T : TTab) (hres : Hid ((res, T) = tBegin (E.map (·.s)) n)) :
    Calls Try.prog 10 #[.pointer (some ⟨p, 0, none⟩), .int .i64 n] w fun e w' => e = .returned (.int .i64 res) ∧ TabPost w w' p r E T := by
  have HH := hid h
  obtain ⟨es, clock, hb, hsz⟩ := mapLen h
  have x0 : w.cell? ⟨p, 0, none⟩ = some (.map (some r)) := by rw [cell_blk h.tab]; rfl
  have hr := hres.out
  unfold tBegin at hr
  have hfew := h.few
  by_cases hn : n < 1 ∨ 2147483647 < n
  · rw [if_pos hn] at hr
    cases hr
    rcases h.find n with ⟨h1, h2, h3⟩ | ⟨i, e, hi, he, h1, h3⟩
    · have H1 := hid h1
      clear h h1 h2 h3 hb
      go_enter Try.func10, Try.ntmps10
      go_wp2_with (go_at_call 29; refine (tabFind_none p r E n w HH.out H1).mono ?_; rintro e w' ⟨rfl, rfl⟩)
      all_goals first
        | (go_ret; exact ⟨rfl, TabPost.same HH.out⟩)
        | (exfalso; omega)
    · have := h.fit e (List.mem_of_getElem? hi)
      omega
  · rw [if_neg hn] at hr
    have hn1 : 1 ≤ n := by omega
    have hn2 : n ≤ 2147483647 := by omega
    rcases h.find n with ⟨h1, h2, h3⟩ | ⟨i, e, hi, he, h1, h3⟩
    · rw [h3] at hr
      simp only [Option.isSome_none, Bool.false_eq_true, if_false, List.length_map] at hr
      have H1 := hid h1
      have hlen : (Builtin.len_ #[60] 3 #[.map (some r)]).run Try.prog w = .ok (goInt E.length) w := by rw [← hsz]; exact Go.run_len_map w _ _ r es clock Try.underlying60 hb
      have hm := hid h.map
      have hpr := h.pr
      clear h h1 h2 h3 hb hsz
      by_cases h4 : 4 ≤ E.length
      · rw [if_pos h4] at hr
        cases hr
        have h4i : (4 : Int) ≤ (E.length : Int) := by omega
        go_enter Try.func10, Try.ntmps10
        go_wp2_with (go_at_call 29; refine (tabFind_none p r E n w HH.out H1).mono ?_; rintro e w' ⟨rfl, rfl⟩)
        go_ret
        exact ⟨rfl, TabPost.same HH.out⟩
      · rw [if_neg h4] at hr
        cases hr
        have h4i : ¬ (4 : Int) ≤ (E.length : Int) := by omega
        go_enter Try.func10, Try.ntmps10
        go_wp2_with (first
          | (go_at_call 29; refine (tabFind_none p r E n w HH.out H1).mono ?_; rintro e w' ⟨rfl, rfl⟩)
          | (at_mapUpdate; refine step_mapUpdate (hm.out.chg ((Chg.refl NoB w).alloc _) (fun e => e)) rfl _ _ _ 60 3 63 rfl Try.underlying60 Try.underlying3 n w.heap.size rfl rfl rfl ?_; intro w2 hm2 hc2 hs2))
        go_ret
        rw [mput_none H1.out] at hm2
        have hbn : w2.heap[w.heap.size]? = some (.cells (TxE.mk ⟨n, 0, 0, 0, []⟩ w.heap.size (.slice none 0 0)).cs 68 (0, 0)) :=
          hc2.heap (blk_new w _) (fun e => by have := HH.out.map.lt; have h' : w.heap.size = r := e; omega)
        have hc3 : Chg (OneB r) w w2 := ((Chg.refl (OneB r) w).alloc _).trans' hc2
        refine ⟨rfl, ⟨E ++ [⟨⟨n, 0, 0, 0, []⟩, w.heap.size, .slice none 0 0⟩], by simp, ?_, tabFp_push (Nat.le_refl _) rfl⟩, hc3.mono fun i hi => .inl (.inr (.inl hi))⟩
        refine HH.out.push (e := ⟨⟨n, 0, 0, 0, []⟩, w.heap.size, .slice none 0 0⟩) (by omega) ?_ hm2 hc3 (Nat.le_refl _) rfl rfl hbn ⟨hn1, hn2, Int.le_refl _, show (0 : Int) ≤ 1048576 by decide⟩
        exact hc3.block p (lt_of_block HH.out.tab) (fun e => hpr e)
    · rw [h3] at hr
      simp only [Option.isSome_some, if_true] at hr
      cases hr
      have H1 := hid h1
      clear h h1 h3 hb
      go_enter Try.func10, Try.ntmps10
      go_wp2_with (go_at_call 29; refine (tabFind_some p r E n w HH.out e.b H1).mono ?_; rintro e w' ⟨rfl, rfl⟩)
      all_goals first
        | (go_ret; exact ⟨rfl, TabPost.same HH.out⟩)
        | (exfalso; omega)

set_option maxRecDepth 100000 in
set_option maxHeartbeats 8000000 in
theorem tabLeft (p r : Nat) (E : List TxE) (n d : Int) (w : World) (h : TabAt w p r E) (hd : -9223372036854775808 ≤ d ∧ d ≤ 9223372036854775807) (res : Int) (T : TTab) (hres : Hid ((res, T) = tLeft (E.map (·.s)) n d)) :
    Calls Try.prog 12 #[.pointer (some ⟨p, 0, none⟩), .int .i64 n, .int .i64 d] w fun e w' => e = .returned (.int .i64 res) ∧ TabPost w w' p r E T := by
  have HH := hid h
  rcases h.find n with ⟨h1, h2, h3⟩ | ⟨i, e, hi, he, h1, h3⟩
  · have hr := hres.out
    unfold tLeft at hr
    rw [h3] at hr
    cases hr
    have H1 := hid h1
    clear h h1 h2 h3
    go_enter Try.func12, Try.ntmps12
    go_wp2_with (go_at_call 29; refine (tabFind_none p r E n w HH.out H1).mono ?_; rintro e w' ⟨rfl, rfl⟩)
    go_ret
    exact ⟨rfl, TabPost.same HH.out⟩
  · have hr := hres.out
    unfold tLeft at hr
    rw [h3] at hr
    dsimp only at hr
    have hm := List.mem_of_getElem? hi
    have HB := hid (h.blk e hm)
    obtain ⟨c0, c1, c2, c3, c4, cf⟩ := TxE.cells HB.out.1
    have cf3 := cf 3
    have H1 := hid h1
    have HI := hid hi
    have HE := hid he
    have hfit := h.fit e hm
    have hown := hid (h.own e hm)
    obtain ⟨hf1, hf2, hf3, hf4, hf5⟩ := hfit
    obtain ⟨hd1, hd2⟩ := hd
    clear h h1 h3 cf hm hi he c0 c1 c2 c4
    by_cases hb : d < -1048576 ∨ 1048576 < d ∨ e.s.left + d < 0 ∨ 1048576 < e.s.left + d
    · rw [if_pos hb] at hr
      cases hr
      go_enter Try.func12, Try.ntmps12
      go_wp2_with (go_at_call 29; refine (tabFind_some p r E n w HH.out e.b H1).mono ?_; rintro e w' ⟨rfl, rfl⟩)
      all_goals first
        | (go_ret; exact ⟨rfl, TabPost.same HH.out⟩)
        | (exfalso; clear hres; omega)
    · rw [if_neg hb] at hr
      cases hr
      have k1 : -1048576 ≤ d := by omega
      have k2 : d ≤ 1048576 := by omega
      have k3 : 0 ≤ e.s.left + d := by omega
      have k4 : e.s.left + d ≤ 1048576 := by omega
      clear hb hres
      go_enter Try.func12, Try.ntmps12
      go_wp2_with (go_at_call 29; refine (tabFind_some p r E n w HH.out e.b H1).mono ?_; rintro e w' ⟨rfl, rfl⟩)
      all_goals
        go_ret
        refine ⟨rfl, ?_⟩
        rw [← HE.out]
        refine TabPost.set HH.out HI.out (e' := ⟨{ e.s with left := e.s.left + d }, e.b, e.mv⟩) rfl rfl ((Chg.refl e.fp w).setCell (.inl (.inl rfl)) _) ?_ ?_ (fun k hk => .inl hk) ?_
        · rw [blk_setCell HB.out.1 3 _]; rfl
        · exact ownsRow.chg HB.out.2 ((Chg.refl (OneB e.b) w).setCell (.inl (OneB.self _)) _) (fun k hk x => hown.out.1 (x ▸ hk))
        · exact ⟨k3, k4, hf5⟩

set_option maxRecDepth 100000 in
theorem tabEnd (p r : Nat) (E : List TxE) (n : Int) (w : World) (h : TabAt w p r E) (res : Int) (T : TTab) (hres : Hid ((res, T) = tEnd (E.map (·.s)) n)) :
    Calls Try.prog 20 #[.pointer (some ⟨p, 0, none⟩), .int .i64 n] w fun e w' => e = .returned (.int .i64 res) ∧ TabPost w w' p r E T := by
  have HH := hid h
  have x0 : w.cell? ⟨p, 0, none⟩ = some (.map (some r)) := by rw [cell_blk h.tab]; rfl
  have hm := hid h.map
  have hr := hres.out
  unfold tEnd at hr
  rcases h.find n with ⟨h1, h2, h3⟩ | ⟨i, e, hi, he, h1, h3⟩
  · rw [h3] at hr
    cases hr
    have H1 := hid h1
    clear h h1 h2 h3
    go_enter Try.func20, Try.ntmps20
    go_wp2_with (go_at_call 29; refine (tabFind_none p r E n w HH.out H1).mono ?_; rintro e w' ⟨rfl, rfl⟩)
    go_ret
    exact ⟨rfl, TabPost.same HH.out⟩
  · rw [h3] at hr
    cases hr
    have H1 := hid h1
    clear h h1 h3
    go_enter Try.func20, Try.ntmps20
    go_wp2_with (first
      | (go_at_call 29; refine (tabFind_some p r E n w HH.out e.b H1).mono ?_; rintro e w' ⟨rfl, rfl⟩)
      | (at_delete; refine step_delete hm.out rfl _ _ 60 3 63 rfl Try.underlying60 Try.underlying3 n rfl rfl ?_; intro w2 hm2 hc2 hs2))
    go_ret
    exact ⟨rfl, ⟨_, del_tab, HH.out.del n hm2 hc2, fun k hk => .inl (tabFp_del k hk)⟩, hc2.mono fun k hk => .inl (.inr (.inl hk))⟩
end Go.Proofs.Ytmikbjlgcndmeaa
