import Derived.Test.YtobmaipjbepphaaJuO
namespace Go.Proofs.Ytobmaipjbepphaa
open Go.RowKit Go.ChangeMaps Go.MapKept
attribute [local go_sem] Go.Oper.rdK
set_option linter.unusedVariables false
set_option maxHeartbeats 8000000

theorem zero_int (w : World) : (zeroValue 3).run Try.prog w = .ok (.int .i64 0) w := by kernel_rfl
/-- An entry's cells at an address. -/
def EtAt (w : World) (b o : Nat) (x : Ent) (v1 v2 : Value) : Prop := w.cell? ⟨b, o, none⟩ = some (.int .i64 x.at_) ∧ RcAt w b (o + 1) x.r v1 v2
theorem EtAt.keep {w w' : World} {b o : Nat} {x : Ent} {v1 v2 : Value} {S : Nat → Prop} (h : EtAt w b o x v1 v2) (hc : Chg S w w') (hs : ¬ S b) : EtAt w' b o x v1 v2 := ⟨hc.cell h.1 hs, h.2.keep hc hs⟩

set_option maxRecDepth 100000 in
theorem entry_calls (p ro rb : Nat) (E : List JE) (s : JS) (af : Value) (n : Nat) (b o : Nat) (x : Ent) (v1 v2 : Value) (w : World) (hJ : JAt w p ro rb E s af n) (hr : EtAt w b o x v1 v2) (hbo : ¬ juFp p ro rb E b)
    (hrk : x.r.okk) (hv : v1.oneCell' = true ∧ v2.oneCell' = true) (hn : n ≤ 100000000) (haf : x.r.kind = 3 → af = .func (.func 25) #[] #[]) (res : Bool) (s' : JS) (hres : Hid ((res, s') = jEnt s x)) :
    Calls Try.prog 17 #[.pointer (some ⟨p, 0, none⟩), .pointer (some ⟨b, o, none⟩)] w fun e w' => e = .returned (.bool res) ∧ ∃ E', Hid (OwnI w w' p ro rb E E' s' af (n + 1)) := by
  have HI : Hid (OwnI w w p ro rb E E s af n) := hid ⟨hJ, Chg.refl _ _, fun k hk => .inl hk⟩
  obtain ⟨p0, p1, p2, p3⟩ := hJ.cells
  have c0 := hr.1
  have f0 : w.frozen? ⟨p, 0, none⟩ = false := frozen_blk hJ.blk 0
  have hJb := hid hJ.blk
  obtain ⟨okb, hokb⟩ := named (decide (s.last < x.at_))
  have hok' := hokb.out.symm
  have HR := hid hr
  have HBO := hid hbo
  have HAF := hid haf
  have hbl := hr.2.lt
  clear hJ hr hbo p1 p2 p3 haf
  go_enter Try.func17, Try.ntmps17
  go_upto_region 1 with fail
  refine wp_region_ord 10 (.rd 0 (.rd 1 (.rd 2 (.rd 3 (.rd 4 (.rd 5 (.rd 6 (.rd 7 (.rd 8 (.rd 9 (.done))))))))))) (Same w) (by kernel_rfl) (by kernel_rfl) (by kernel_rfl) (by kernel_rfl) (by kernel_rfl) (fun _ _ d _ _ h => by cases d <;> exact h) (Same.of (Chg.refl _ _).drew) (fun hS0 => ?_)
  refine wpOrd_rd rfl rfl (by first | decide | simp) (by assumption) (fun w' hw' K hK => by ((try unfold Same at hw'); (try go_split_ands); go_simp; exact hK)) ?_
  refine wpOrd_rd rfl rfl (by first | decide | simp) (by assumption) (fun w' hw' K hK => by ((try unfold Same at hw'); (try go_split_ands); go_simp; exact hK)) ?_
  refine wpOrd_rd rfl rfl (by first | decide | simp) (by assumption) (fun w' hw' K hK => by ((try unfold Same at hw'); (try go_split_ands); go_simp; exact hK)) ?_
  refine wpOrd_rd rfl rfl (by first | decide | simp) (by assumption) (fun w' hw' K hK => by ((try unfold Same at hw'); (try go_split_ands); go_simp; exact hK)) ?_
  refine wpOrd_rd rfl rfl (by first | decide | simp) (by assumption) (fun w' hw' K hK => by ((try unfold Same at hw'); (try go_split_ands); go_simp; exact hK)) ?_
  refine wpOrd_rd rfl rfl (by first | decide | simp) (by assumption) (fun w' hw' K hK => by ((try unfold Same at hw'); (try go_split_ands); go_simp; exact hK)) ?_
  refine wpOrd_rd rfl rfl (by first | decide | simp) (by assumption) (fun w' hw' K hK => by ((try unfold Same at hw'); (try go_split_ands); go_simp; exact hK)) ?_
  refine wpOrd_rd rfl rfl (by first | decide | simp) (by assumption) (fun w' hw' K hK => by ((try unfold Same at hw'); (try go_split_ands); go_simp; exact hK)) ?_
  refine wpOrd_rd rfl rfl (by first | decide | simp) (by assumption) (fun w' hw' K hK => by ((try unfold Same at hw'); (try go_split_ands); go_simp; exact hK)) ?_
  refine wpOrd_rd rfl rfl (by first | decide | simp) (by assumption) (fun w' hw' K hK => by ((try unfold Same at hw'); (try go_split_ands); go_simp; exact hK)) ?_
  refine wpOrd_nil ?_
  have p0' : (World.drew w).cell? ⟨p, 0, none⟩ = some (.int .i64 s.last) := p0
  have c0' : (World.drew w).cell? ⟨b, o, none⟩ = some (.int .i64 x.at_) := c0
  have f0' : (World.drew w).frozen? ⟨p, 0, none⟩ = false := f0
  clear p0 c0 f0 hok'
  obtain ⟨mx, hmx⟩ := named (max s.last x.at_)
  have hmx' : (if s.last < x.at_ then x.at_ else s.last) = mx := by rw [hmx.out]; split <;> omega
  go_upto_region 2 with fail
  refine wp_region_ord 12 (.rd 0 (.rd 1 (.rd 2 (.rd 3 (.rd 4 (.rd 5 (.rd 6 (.rd 7 (.rd 8 (.rd 9 (.rd 10 (.rd 11 (.one 12 (.done)))))))))))))) (Same (World.drew w)) (by kernel_rfl) (by kernel_rfl) (by kernel_rfl) (by kernel_rfl) (by kernel_rfl) (fun _ _ d _ _ h => by cases d <;> exact h) (Same.of (Chg.refl _ _).drew) (fun hS0 => ?_)
  refine wpOrd_rd rfl rfl (by first | decide | simp) (by assumption) (fun w' hw' K hK => by ((try unfold Same at hw'); (try go_split_ands); go_simp; exact hK)) ?_
  refine wpOrd_rd rfl rfl (by first | decide | simp) (by assumption) (fun w' hw' K hK => by ((try unfold Same at hw'); (try go_split_ands); go_simp; exact hK)) ?_
  refine wpOrd_rd rfl rfl (by first | decide | simp) (by assumption) (fun w' hw' K hK => by ((try unfold Same at hw'); (try go_split_ands); go_simp; exact hK)) ?_
  refine wpOrd_rd rfl rfl (by first | decide | simp) (by assumption) (fun w' hw' K hK => by ((try unfold Same at hw'); (try go_split_ands); go_simp; exact hK)) ?_
  refine wpOrd_rd rfl rfl (by first | decide | simp) (by assumption) (fun w' hw' K hK => by ((try unfold Same at hw'); (try go_split_ands); go_simp; exact hK)) ?_
  refine wpOrd_rd rfl rfl (by first | decide | simp) (by assumption) (fun w' hw' K hK => by ((try unfold Same at hw'); (try go_split_ands); go_simp; exact hK)) ?_
  refine wpOrd_rd rfl rfl (by first | decide | simp) (by assumption) (fun w' hw' K hK => by ((try unfold Same at hw'); (try go_split_ands); go_simp; exact hK)) ?_
  refine wpOrd_rd rfl rfl (by first | decide | simp) (by assumption) (fun w' hw' K hK => by ((try unfold Same at hw'); (try go_split_ands); go_simp; exact hK)) ?_
  refine wpOrd_rd rfl rfl (by first | decide | simp) (by assumption) (fun w' hw' K hK => by ((try unfold Same at hw'); (try go_split_ands); go_simp; exact hK)) ?_
  refine wpOrd_rd rfl rfl (by first | decide | simp) (by assumption) (fun w' hw' K hK => by ((try unfold Same at hw'); (try go_split_ands); go_simp; exact hK)) ?_
  refine wpOrd_rd rfl rfl (by first | decide | simp) (by assumption) (fun w' hw' K hK => by ((try unfold Same at hw'); (try go_split_ands); go_simp; exact hK)) ?_
  refine wpOrd_rd rfl rfl (by first | decide | simp) (by assumption) (fun w' hw' K hK => by ((try unfold Same at hw'); (try go_split_ands); go_simp; exact hK)) ?_
  refine wpOrd_do rfl ?_
  refine step_store1 (v := .int .i64 mx) rfl rfl p 0 rfl rfl rfl rfl (cs := juC s.last ro s.pg rb af) (show (World.drew (World.drew w)).heap[p]? = _ from hJb.out) (by simp [juC]) (by kernel_rfl) ?_; intro w5 hb5 hc5 hs5
  (try dsimp only [Act.put])
  (try simp only [List.setIfInBounds_toArray, List.set_cons_zero, List.set_cons_succ])
  refine wpOrd_last ?_
  refine wpOrd_nil ?_
  obtain ⟨s1, hs1⟩ := named ({ s with last := mx } : JS)
  have hcW : Chg (OneB p) w w5 := ((Chg.refl (OneB p) w).drew.drew).trans' hc5
  have hW : Hid (OwnI w w5 p ro rb E E s1 af n) := hid (by
    rw [hs1.out]
    exact HI.out.step (HI.out.at_.own (l := mx) (pg := s.pg) hcW (by simpa [juC] using hb5) HI.out.at_.pl HI.out.at_.pr) (hcW.mono fun k hk => .inl (.inl hk)) (fun k hk => .inl hk))
  have hE5 := HR.out.keep hW.out.chg HBO.out
  have d0 := hE5.1
  have hE52 := hE5.2
  obtain ⟨d1, _, _, _, _, _, d7, _, _⟩ := hE5.2.cells
  clear hb5 hc5 hs5 hcW hS0 p0' c0' f0' hmx'
  obtain ⟨kd, hkd⟩ := named x.r.kind
  rw [← hkd.out] at d1
  have HJE : Hid ((res, s') = (if kd = 1 ∨ kd = 2 ∨ kd = 3 ∨ kd = 4 then ((jOwn s1 x.at_ x.r).1 && okb, (jOwn s1 x.at_ x.r).2) else if kd = 5 then (okb, { s1 with beg := mput s1.beg x.at_ (jCount s1.beg x.at_ + 1) }) else if kd = 6 then (okb && decide (0 < jCount s1.beg x.r.beg), s1) else (false, s1))) := hid (by
    rw [hres.out]; unfold jEnt; rw [hkd.out, hokb.out, hs1.out, hmx.out])
  by_cases hk : kd = 1 ∨ kd = 2 ∨ kd = 3 ∨ kd = 4
  · have HJ2 := hid (HJE.out.trans (if_pos hk))
    obtain ⟨⟨ob, sb⟩, hob⟩ := named (jOwn s1 x.at_ x.r)
    have HKk : Hid (x.r.kind = 1 ∨ x.r.kind = 2 ∨ x.r.kind = 3 ∨ x.r.kind = 4) := hid (by rw [← hkd.out]; exact hk)
    have hdob : Hid ((ob, sb) = jOwn s1 x.at_ x.r) := hob
    have HJ3 : Hid (res = (ob && okb) ∧ s' = sb) := hid (by
      have := HJ2.out
      rw [← hob.out] at this
      simp only [Prod.mk.injEq] at this
      exact this)
    have HS : Hid (∀ w', Chg (juFp p ro rb E) w5 w' → w'.cell? ⟨b, o, none⟩ = some (.int .i64 x.at_)) := hid (fun w' hc => hc.cell d0 (hW.out.nb HBO.out hbl))
    clear HJE HJ2 hob d7
    rcases hk with rfl | rfl | rfl | rfl
    all_goals
      clear hkd
      cases ob
      all_goals
        go_upto_region 8 with fail
        refine wp_region_ord 13 (.rd 0 (.rd 1 (.rd 2 (.rd 3 (.rd 4 (.rd 5 (.rd 6 (.rd 7 (.one 8 (.rd 9 (.rd 10 (.rd 11 (.rd 12 (.done)))))))))))))) (fun w' => w'.cell? ⟨b, o, none⟩ = some (.int .i64 x.at_)) (by kernel_rfl) (by kernel_rfl) (by kernel_rfl) (by kernel_rfl) (by kernel_rfl) (fun _ _ d _ _ h => by cases d <;> exact h) (HS.out _ (Chg.refl _ w5).drew) (fun hS0 => ?_)
        refine wpOrd_rd rfl rfl (by first | decide | simp) (by assumption) (fun w' hw' K hK => by ((try unfold Same at hw'); (try go_split_ands); go_simp; exact hK)) ?_
        refine wpOrd_rd rfl rfl (by first | decide | simp) (by assumption) (fun w' hw' K hK => by ((try unfold Same at hw'); (try go_split_ands); go_simp; exact hK)) ?_
        refine wpOrd_rd rfl rfl (by first | decide | simp) (by assumption) (fun w' hw' K hK => by ((try unfold Same at hw'); (try go_split_ands); go_simp; exact hK)) ?_
        refine wpOrd_rd rfl rfl (by first | decide | simp) (by assumption) (fun w' hw' K hK => by ((try unfold Same at hw'); (try go_split_ands); go_simp; exact hK)) ?_
        refine wpOrd_rd rfl rfl (by first | decide | simp) (by assumption) (fun w' hw' K hK => by ((try unfold Same at hw'); (try go_split_ands); go_simp; exact hK)) ?_
        refine wpOrd_rd rfl rfl (by first | decide | simp) (by assumption) (fun w' hw' K hK => by ((try unfold Same at hw'); (try go_split_ands); go_simp; exact hK)) ?_
        refine wpOrd_rd rfl rfl (by first | decide | simp) (by assumption) (fun w' hw' K hK => by ((try unfold Same at hw'); (try go_split_ands); go_simp; exact hK)) ?_
        refine wpOrd_rd rfl rfl (by first | decide | simp) (by assumption) (fun w' hw' K hK => by ((try unfold Same at hw'); (try go_split_ands); go_simp; exact hK)) ?_
        refine wpOrd_do rfl ?_
        refine wpList_plain rfl (fun K hK => ?_)
        go_simp
        ((with_reducible refine (own_calls p ro rb E s1 af n x.at_ b (o + 1) x.r v1 v2 _ (hW.out.at_.keep0 (Chg.refl NoB w5).drew) (hE52.keep (Chg.refl NoB w5).drew nob) (hW.out.nb HBO.out hbl) hrk hv hn HKk.out HAF.out _ _ hdob).mono ?_); rintro en w6 ⟨rfl, E', hI6⟩)
        refine hK _ _ ?_
        clear hK K
        have hI7 := hid hI6
        (try dsimp only [Act.put])
        (try simp only [List.setIfInBounds_toArray, List.set_cons_zero, List.set_cons_succ])
        refine wpOrd_done (HS.out _ ((Chg.refl _ w5).drew.trans' hI6.chg)) (fun hS1 => ?_)
        refine wpOrd_rd rfl rfl (by first | decide | simp) (by assumption) (fun w' hw' K hK => by ((try unfold Same at hw'); (try go_split_ands); go_simp; exact hK)) ?_
        refine wpOrd_rd rfl rfl (by first | decide | simp) (by assumption) (fun w' hw' K hK => by ((try unfold Same at hw'); (try go_split_ands); go_simp; exact hK)) ?_
        refine wpOrd_rd rfl rfl (by first | decide | simp) (by assumption) (fun w' hw' K hK => by ((try unfold Same at hw'); (try go_split_ands); go_simp; exact hK)) ?_
        refine wpOrd_rd rfl rfl (by first | decide | simp) (by assumption) (fun w' hw' K hK => by ((try unfold Same at hw'); (try go_split_ands); go_simp; exact hK)) ?_
        refine wpOrd_nil ?_
        clear hS0 hS1 hI6
        go_wp2_with fail
        go_ret
        refine ⟨ret_bool HJ3.out.1.symm, E', hid ?_⟩
        rw [HJ3.out.2]
        exact (hW.out.keep (Chg.refl NoB w5).drew).step hI7.out.at_ hI7.out.chg hI7.out.fp
  · have HJ2 := hid (HJE.out.trans (if_neg hk))
    clear HJE
    by_cases h5 : kd = 5
    · subst h5
      have HJ3 := hid (HJ2.out.trans (if_pos rfl))
      obtain ⟨cn, hcn⟩ := named (jCount s1.beg x.at_)
      have hcb : 0 ≤ cn ∧ cn ≤ 100000000 := by
        rw [hcn.out]
        unfold jCount
        cases hm : mget s1.beg x.at_ with
        | none => simp
        | some v =>
          unfold mget at hm
          obtain ⟨y, hy, rfl⟩ := Option.map_eq_some_iff.1 hm
          have := hW.out.at_.ct.2 y (List.mem_of_find?_eq_some hy)
          simp only [Option.getD_some]
          omega
      obtain ⟨hc0, hc1⟩ := hcb
      have HL := look_any (P := Try.prog) (V := Value.int .i64) Try.underlying26 Try.underlying3 hW.out.at_.mb zero_int x.at_ false (res := .int .i64 cn) (by rw [hcn.out]; unfold jCount; cases mget s1.beg x.at_ <;> rfl)
      have q2 := hW.out.at_.cells.2.2.1
      have hw1 : IntKind.i64.wrap (cn + 1) = cn + 1 := by rw [IntKind.wrap_i64]; omega
      clear hk HJ2 hkd d7
      go_upto_region 10 with fail
      refine wp_region_ord 10 (.rd 0 (.rd 1 (.rd 2 (.rd 3 (.rd 4 (.rd 5 (.rd 6 (.rd 7 (.rd 8 (.rd 9 (.one 10 (.done)))))))))))) (fun w' => Same w5 w' ∧ (Instr.lookup 26 (.map (some rb)) (.int .i64 x.at_) false).run Try.prog w' = .ok (.int .i64 cn) w') (by kernel_rfl) (by kernel_rfl) (by kernel_rfl) (by kernel_rfl) (by kernel_rfl) (fun _ _ d _ _ h => by cases d <;> exact h) (⟨Same.of (Chg.refl _ _).drew, HL.out _ (Chg.refl NoB w5).drew⟩) (fun hS0 => ?_)
      refine wpOrd_rd rfl rfl (by first | decide | simp) (by assumption) (fun w' hw' K hK => by ((try unfold Same at hw'); (try go_split_ands); go_simp; exact hK)) ?_
      refine wpOrd_rd rfl rfl (by first | decide | simp) (by assumption) (fun w' hw' K hK => by ((try unfold Same at hw'); (try go_split_ands); go_simp; exact hK)) ?_
      refine wpOrd_rd rfl rfl (by first | decide | simp) (by assumption) (fun w' hw' K hK => by ((try unfold Same at hw'); (try go_split_ands); go_simp; exact hK)) ?_
      refine wpOrd_rd rfl rfl (by first | decide | simp) (by assumption) (fun w' hw' K hK => by ((try unfold Same at hw'); (try go_split_ands); go_simp; exact hK)) ?_
      refine wpOrd_rd rfl rfl (by first | decide | simp) (by assumption) (fun w' hw' K hK => by ((try unfold Same at hw'); (try go_split_ands); go_simp; exact hK)) ?_
      refine wpOrd_rd rfl rfl (by first | decide | simp) (by assumption) (fun w' hw' K hK => by ((try unfold Same at hw'); (try go_split_ands); go_simp; exact hK)) ?_
      refine wpOrd_rd rfl rfl (by first | decide | simp) (by assumption) (fun w' hw' K hK => by ((try unfold Same at hw'); (try go_split_ands); go_simp; exact hK)) ?_
      refine wpOrd_rd rfl rfl (by first | decide | simp) (by assumption) (fun w' hw' K hK => by ((try unfold Same at hw'); (try go_split_ands); go_simp; exact hK)) ?_
      refine wpOrd_rd rfl rfl (by first | decide | simp) (by assumption) (fun w' hw' K hK => by ((try unfold Same at hw'); (try go_split_ands); go_simp; exact hK)) ?_
      refine wpOrd_rd rfl rfl (by first | decide | simp) (by assumption) (fun w' hw' K hK => by ((try unfold Same at hw'); (try go_split_ands); go_simp; exact hK)) ?_
      refine wpOrd_do rfl ?_
      refine step_mapUpdate hW.out.at_.mb.drew rfl _ _ _ 26 3 3 rfl Try.underlying26 Try.underlying3 x.at_ (cn + 1) rfl rfl rfl ?_; intro w6 hm6 hc6 hs6
      (try dsimp only [Act.put])
      (try simp only [List.setIfInBounds_toArray, List.set_cons_zero, List.set_cons_succ])
      refine wpOrd_last ?_
      refine wpOrd_nil ?_
      have hc7 : Chg (OneB rb) w5 w6 := (Chg.refl (OneB rb) w5).drew.trans' hc6
      have hJ7 := (hW.out.at_.mono (Nat.le_succ n)).begs hc7 hm6 (fun y hy => by
        rcases mput_mem hy with hy | rfl
        · have := hW.out.at_.ct.2 y hy; omega
        · have : cn ≤ n := by
            rw [hcn.out]
            unfold jCount
            cases hm : mget s1.beg x.at_ with
            | none => simp
            | some v =>
              unfold mget at hm
              obtain ⟨y, hy, rfl⟩ := Option.map_eq_some_iff.1 hm
              exact (hW.out.at_.ct.2 y (List.mem_of_find?_eq_some hy)).2
          simp only []; omega)
      have hf : Hid (res = okb ∧ s' = { s1 with beg := mput s1.beg x.at_ (cn + 1) }) := hid (by
        have := HJ3.out
        rw [← hcn.out] at this
        simpa using this)
      have hI7 := hid (hW.out.step hJ7 (hc7.mono fun k hk => .inl (.inr (.inl hk))) (fun k hk => .inl hk))
      clear hJ7 hm6 hc6 hs6 hc7 hw1 q2 HL hS0
      go_wp2_with fail
      go_ret
      refine ⟨ret_bool hf.out.1.symm, E, hid ?_⟩
      rw [hf.out.2]
      exact hI7.out
    · have HJ4 := hid (HJ2.out.trans (if_neg h5))
      have b1 : (kd == 1) = false := by simp; omega
      have b2 : (kd == 2) = false := by simp; omega
      have b3 : (kd == 3) = false := by simp; omega
      have b4 : (kd == 4) = false := by simp; omega
      have b5 : (kd == 5) = false := by simp; omega
      by_cases h6 : kd = 6
      · have HJ5 := hid (HJ4.out.trans (if_pos h6))
        obtain ⟨cn, hcn⟩ := named (jCount s1.beg x.r.beg)
        obtain ⟨zb, hzb⟩ := named (decide (0 < cn))
        have hz := hzb.out.symm
        have b6 : (kd == 6) = true := by simp; omega
        have HL := look_any (P := Try.prog) (V := Value.int .i64) Try.underlying26 Try.underlying3 hW.out.at_.mb zero_int x.r.beg false (res := .int .i64 cn) (by rw [hcn.out]; unfold jCount; cases mget s1.beg x.r.beg <;> rfl)
        have q2 := hW.out.at_.cells.2.2.1
        have hf : Hid (res = (okb && zb) ∧ s' = s1) := hid (by
          have := HJ5.out
          rw [← hcn.out, ← hzb.out] at this
          simpa using this)
        clear hk h5 h6 HJ2 HJ4 HJ5 hcn hzb hkd
        go_upto_region 13 with fail
        cases okb
        all_goals
          refine wp_region_ord 15 (.rd 0 (.rd 1 (.rd 2 (.rd 3 (.rd 4 (.rd 5 (.rd 6 (.rd 7 (.rd 8 (.rd 9 (.rd 10 (.rd 11 (.rd 12 (.rd 13 (.rd 14 (.done)))))))))))))))) (fun w' => Same w5 w' ∧ (Instr.lookup 26 (.map (some rb)) (.int .i64 x.r.beg) false).run Try.prog w' = .ok (.int .i64 cn) w') (by kernel_rfl) (by kernel_rfl) (by kernel_rfl) (by kernel_rfl) (by kernel_rfl) (fun _ _ d _ _ h => by cases d <;> exact h) (⟨Same.of (Chg.refl _ _).drew, HL.out _ (Chg.refl NoB w5).drew⟩) (fun hS0 => ?_)
          refine wpOrd_rd rfl rfl (by first | decide | simp) (by assumption) (fun w' hw' K hK => by ((try unfold Same at hw'); (try go_split_ands); go_simp; exact hK)) ?_
          refine wpOrd_rd rfl rfl (by first | decide | simp) (by assumption) (fun w' hw' K hK => by ((try unfold Same at hw'); (try go_split_ands); go_simp; exact hK)) ?_
          refine wpOrd_rd rfl rfl (by first | decide | simp) (by assumption) (fun w' hw' K hK => by ((try unfold Same at hw'); (try go_split_ands); go_simp; exact hK)) ?_
          refine wpOrd_rd rfl rfl (by first | decide | simp) (by assumption) (fun w' hw' K hK => by ((try unfold Same at hw'); (try go_split_ands); go_simp; exact hK)) ?_
          refine wpOrd_rd rfl rfl (by first | decide | simp) (by assumption) (fun w' hw' K hK => by ((try unfold Same at hw'); (try go_split_ands); go_simp; exact hK)) ?_
          refine wpOrd_rd rfl rfl (by first | decide | simp) (by assumption) (fun w' hw' K hK => by ((try unfold Same at hw'); (try go_split_ands); go_simp; exact hK)) ?_
          refine wpOrd_rd rfl rfl (by first | decide | simp) (by assumption) (fun w' hw' K hK => by ((try unfold Same at hw'); (try go_split_ands); go_simp; exact hK)) ?_
          refine wpOrd_rd rfl rfl (by first | decide | simp) (by assumption) (fun w' hw' K hK => by ((try unfold Same at hw'); (try go_split_ands); go_simp; exact hK)) ?_
          refine wpOrd_rd rfl rfl (by first | decide | simp) (by assumption) (fun w' hw' K hK => by ((try unfold Same at hw'); (try go_split_ands); go_simp; exact hK)) ?_
          refine wpOrd_rd rfl rfl (by first | decide | simp) (by assumption) (fun w' hw' K hK => by ((try unfold Same at hw'); (try go_split_ands); go_simp; exact hK)) ?_
          refine wpOrd_rd rfl rfl (by first | decide | simp) (by assumption) (fun w' hw' K hK => by ((try unfold Same at hw'); (try go_split_ands); go_simp; exact hK)) ?_
          refine wpOrd_rd rfl rfl (by first | decide | simp) (by assumption) (fun w' hw' K hK => by ((try unfold Same at hw'); (try go_split_ands); go_simp; exact hK)) ?_
          refine wpOrd_rd rfl rfl (by first | decide | simp) (by assumption) (fun w' hw' K hK => by ((try unfold Same at hw'); (try go_split_ands); go_simp; exact hK)) ?_
          refine wpOrd_rd rfl rfl (by first | decide | simp) (by assumption) (fun w' hw' K hK => by ((try unfold Same at hw'); (try go_split_ands); go_simp; exact hK)) ?_
          refine wpOrd_rd rfl rfl (by first | decide | simp) (by assumption) (fun w' hw' K hK => by ((try unfold Same at hw'); (try go_split_ands); go_simp; exact hK)) ?_
          refine wpOrd_nil ?_
          go_wp2_with fail
          go_ret
          refine ⟨ret_bool (by rw [hf.out.1]; simp), E, hid ?_⟩
          rw [hf.out.2]
          exact (hW.out.keep (Chg.refl NoB w5).drew).step ((hW.out.at_.keep0 (Chg.refl NoB w5).drew).mono (Nat.le_succ n)) (Chg.refl _ _) (fun k hk => .inl hk)
      · have HJ5 := hid (HJ4.out.trans (if_neg h6))
        have b6 : (kd == 6) = false := by simp; omega
        have hf : Hid (res = false ∧ s' = s1) := hid (by simpa using HJ5.out)
        clear hk h5 h6 HJ2 HJ4 HJ5 hkd
        go_wp2_with fail
        go_ret
        refine ⟨ret_bool hf.out.1.symm, E, hid ?_⟩
        rw [hf.out.2]
        exact hW.out.step (hW.out.at_.mono (Nat.le_succ n)) (Chg.refl _ _) (fun k hk => .inl hk)
end Go.Proofs.Ytobmaipjbepphaa
