import Derived.Test.YtghklbflbodajaaBb4
import Derived.Test.YtghklbflbodajaaBbL
import Derived.Test.YtghklbflbodajaaBk8
import Derived.Test.YtghklbflbodajaaB5
import Derived.Test.YtghklbflbodajaaB6
namespace Go.Proofs.Ytghklbflbodajaa
open Go.RowKit Go.ChangeMaps Go.MapKept
set_option linter.unusedVariables false
set_option linter.unusedSimpArgs false
set_option linter.unnecessarySimpa false
set_option maxHeartbeats 8000000

theorem rd_none {s : ByteArray} {w : World} (hf : s.size ≤ 2 ^ 63 - 1) (h : bkRead s = none) : Calls Try.prog 7 #[.string s] w fun e w' => e = .returned (.tuple #[.pointer none, .int .i64 3]) ∧ Chg NoB w w' :=
  (read_calls s w hf).mono fun e w' hr => by unfold RdAns at hr; rw [h] at hr; exact hr
theorem rd_some {s : ByteArray} {w : World} {L : List Tk} (hf : s.size ≤ 2 ^ 63 - 1) (h : bkRead s = some L) : Calls Try.prog 7 #[.string s] w fun e w' => ∃ p g, e = .returned (.tuple #[.pointer (some ⟨p, 0, none⟩), .int .i64 0]) ∧ Hid (BkAt w' p g L) ∧ Hid (Chg NoB w w') :=
  (read_calls s w hf).mono fun e w' hr => by unfold RdAns at hr; rw [h] at hr; obtain ⟨p, g, h1, h2, h3, _⟩ := hr; exact ⟨p, g, h1, h2, h3⟩
theorem rq_none {s : ByteArray} {w : World} (hf : s.size ≤ 2 ^ 63 - 1) (h : bkRead s = none) : Calls Try.prog 8 #[.string s] w fun e w' => e = .returned (.tuple #[.pointer none, .bool false]) ∧ Chg NoB w w' :=
  (qread_calls s w hf).mono fun e w' hr => by unfold RdQ at hr; rw [h] at hr; exact hr
theorem rq_some {s : ByteArray} {w : World} {L : List Tk} (hf : s.size ≤ 2 ^ 63 - 1) (h : bkRead s = some L) : Calls Try.prog 8 #[.string s] w fun e w' => ∃ p v, e = .returned (.tuple #[.pointer (some ⟨p, 0, none⟩), .bool true]) ∧ Hid (RbR w' p v L) ∧ Hid (Chg NoB w w') :=
  (qread_calls s w hf).mono fun e w' hr => by unfold RdQ at hr; rw [h] at hr; exact hr
/-- What New leaves. -/
def NewSt (a0 : Int) (B : Nat) (w : World) (vb : Value) : Prop := (vb = .pointer none) ∨ ∃ n p g : Nat, a0 = n ∧ 1 ≤ n ∧ n ≤ 8 ∧ vb = .pointer (some ⟨p, 0, none⟩) ∧ BkAt w p g (bkNew n) ∧ B ≤ g
theorem NewSt.mono {a0 : Int} {B : Nat} {w w' : World} {vb : Value} (h : NewSt a0 B w vb) (hc : Chg NoB w w') : NewSt a0 B w' vb := by
  rcases h with h | ⟨n, p, g, h1, h2, h3, h4, h5, h6⟩
  · exact .inl h
  · exact .inr ⟨n, p, g, h1, h2, h3, h4, h5.mono hc, h6⟩
theorem new_any (a0 : Int) (w : World) : Calls Try.prog 6 #[.int .i64 a0] w fun e w' => ∃ vb er, e = .returned (.tuple #[vb, .int .i64 er]) ∧ Hid (NewSt a0 w.heap.size w' vb) ∧ Hid (Chg NoB w w') := by
  by_cases hn : a0 < 1 ∨ 8 < a0
  · exact (bnew_bad a0 w hn).mono fun e w' ⟨h1, h2⟩ => by subst h2; exact ⟨_, _, h1, hid (.inl rfl), hid (Chg.refl _ _)⟩
  · obtain ⟨n, rfl⟩ := Int.eq_ofNat_of_zero_le (a := a0) (by omega)
    exact (bnew_calls n w (by omega) (by omega)).mono fun e w' ⟨p, g, h1, h2, h3, _, h5⟩ => ⟨_, _, h1, hid (.inr ⟨n, p, g, rfl, by omega, by omega, rfl, h2.out, h5⟩), h3⟩
theorem read_small {s : ByteArray} {L : List Tk} (h : bkRead s = some L) : s.size ≤ 5000 := by
  obtain ⟨hh, _, _⟩ := bkRead_parts h
  obtain ⟨_, _, _, h8, hz⟩ := bkHead_parts hh
  omega
set_option maxRecDepth 100000 in
theorem backupBytes_walk (w : World) (a0 : Int) (wa0 : (Lit.int .i64 a0).wf = true) (vc : Value) (cl : List Cpy) (hvc : RdR w 4 (fun x cs => cs = encCp x ∧ CpOk x) vc cl) (s : ByteArray) (hs : s.size ≤ maxLen) :
    Calls Try.prog 3 #[.int .i64 a0, vc, .string s] w fun e w' => e = .returned (.bool true) ∧ Chg NoB w w' := by
  obtain ⟨hrc, hcok⟩ := hvc.rd'
  obtain ⟨ac, cc, rfl, hc1, hc2, hc3⟩ := hrc
  have HRC : Hid (Rd w 4 encCp (.slice ac cl.length cc) cl) := hid ⟨ac, cc, rfl, hc1, hc2, hc3⟩
  have HVC := hid hc3
  have HCOK := hid hcok
  obtain ⟨f1, hf1⟩ := named (cpFew cl)
  have hfr := fun w h => cpFew_calls (.slice ac cl.length cc) cl w h f1 hf1
  clear hvc hc3 hcok
  unfold maxLen at hc2
  have hsf : s.size ≤ 2 ^ 63 - 1 := hs
  clear hs
  by_cases hbig : (s.size : Int) > 5000
  · have hbr : bkRead s = none := by
      cases h : bkRead s with
      | none => rfl
      | some L => have := read_small h; omega
    go_enter Try.func3, Try.ntmps3
    go_wp2_with (first
      | (go_at_call 6; with_reducible refine (new_any a0 _).mono ?_; rintro e w1 ⟨vb, er, rfl, hN1, hC1⟩)
      | (go_at_call 7; with_reducible refine (rd_none hsf hbr).mono ?_; rintro e w2 ⟨rfl, hc2⟩; have HC2 := hid (hC1.out.trans' hc2); clear hc2)
      | (go_at_call 8; with_reducible refine (rq_none hsf hbr).mono ?_; rintro e w3 ⟨rfl, hc3⟩; have HC3 := hid (HC2.out.trans' hc3); clear hc3)
      | (go_at_call 9; refine (bkAwake _).mono ?_; rintro e w4 ⟨rfl, hc4⟩; have HC3 := hid (HC3.out.trans' hc4); clear hc4))
    go_ret
    exact ⟨rfl, HC3.out⟩
  cases hbr : bkRead s
  case' none =>
    go_enter Try.func3, Try.ntmps3
    go_upto_region 12 with (first
      | (go_at_call 6; with_reducible refine (new_any a0 _).mono ?_; rintro e w1 ⟨vb, er, rfl, hN1, hC1⟩)
      | (go_at_call 7; with_reducible refine (rd_none hsf hbr).mono ?_; rintro e w2 ⟨rfl, hc2⟩; have HC2 := hid (hC1.out.trans' hc2); have HN2 := hid (hN1.out.mono hc2); clear hc2)
      | (go_at_call 8; with_reducible refine (rq_none hsf hbr).mono ?_; rintro e w3 ⟨rfl, hc3⟩; have HC3 := hid (HC2.out.trans' hc3); have HN3 := hid (HN2.out.mono hc3); clear hc3)
      | (go_at_call 9; refine (bkAwake _).mono ?_; rintro e w4 ⟨rfl, hc4⟩; have HC4 := hid (HC3.out.trans' hc4); have HN4 := hid (HN3.out.mono hc4); clear hc4))
    refine wp_gen (fun W => Hid (NewSt a0 w.heap.size W vb) ∧ Hid (Chg NoB w W)) ⟨HN4, HC4⟩ ?_
    rintro W ⟨HN, HC⟩
    clear HN2 HN3 HN4 HC2 HC3 HC4 hN1 hC1
  case' some L =>
    have hbb := bytes_of_read hbr
    have HBB : Hid ((s, (0 : Int)) = bkBytes L) := hid hbb.2.symm
    have HBW := hid hbb.1
    have HBS : Hid (s = (bkBytes L).1) := hid (by rw [hbb.2])
    clear hbb
    go_enter Try.func3, Try.ntmps3
    go_upto_region 12 with (first
      | (go_at_call 6; with_reducible refine (new_any a0 _).mono ?_; rintro e w1 ⟨vb, er, rfl, hN1, hC1⟩)
      | (go_at_call 7; with_reducible refine (rd_some hsf hbr).mono ?_; rintro e w2 ⟨px, gx, rfl, hX2, hc2⟩; have HC2 := hid (hC1.out.trans' hc2.out); have HN2 := hid (hN1.out.mono hc2.out); clear hc2)
      | (go_at_call 8; with_reducible refine (rq_some hsf hbr).mono ?_; rintro e w3 ⟨py, vy, rfl, hY3, hc3⟩; have HC3 := hid (HC2.out.trans' hc3.out); have HN3 := hid (HN2.out.mono hc3.out); have HX3 := hid (hX2.out.mono hc3.out); clear hc3)
      | (go_at_call 9; refine (bkAwake _).mono ?_; rintro e w4 ⟨rfl, hc4⟩; have HC4 := hid (HC3.out.trans' hc4); have HN4 := hid (HN3.out.mono hc4); have HX4 := hid (HX3.out.mono hc4); have HY4 := hid (hY3.out.mono hc4); clear hc4)
      | (go_at_call 10; with_reducible refine (bk_bytes_calls px gx L _ HX4.out (s, 0) HBB).mono ?_; rintro e w5 ⟨rfl, hc5⟩)
      | (go_at_call 11; with_reducible refine (qBytes_calls py vy L _ (HY4.out.mono hc5) HBW.out HX4.out.ok HX4.out.len.2 s HBS).mono ?_; rintro e w6 ⟨rfl, hc6⟩))
    refine wp_gen (fun W => Hid (NewSt a0 w.heap.size W vb) ∧ Hid (Chg NoB w W)) ⟨hid (HN4.out.mono (hc5.trans' hc6)), hid (HC4.out.trans' (hc5.trans' hc6))⟩ ?_
    rintro W ⟨HN, HC⟩
    clear HN2 HN3 HN4 HC2 HC3 HC4 hN1 hC1 hX2 hY3 HX3 HX4 HY4 hc5 hc6
  all_goals
    rcases HN.out with hv | ⟨n, p, g, ha, h1, h8, hv, hB, hgB⟩
    · subst hv
      go_wp2_with fail
      go_ret
      exact ⟨rfl, HC.out⟩
    · subst hv ha
      have hB := hid hB
      clear HN
      have hmk := fun w => makeTkQ n h8 h1 w
      cases f1
      · go_wp2_with (go_at_call 12; refine (hfr _ (HRC.out.mono HC.out)).mono ?_; rintro e w7 ⟨rfl, hc7⟩)
        go_ret
        exact ⟨rfl, HC.out.trans' hc7⟩
      · go_upto_region 15 with (go_at_call 12; refine (hfr _ (HRC.out.mono HC.out)).mono ?_; rintro e w7 ⟨rfl, hc7⟩)
        have hlc : cl.length ≤ 40 := by
          have := hf1.out
          unfold cpFew at this
          rw [eq_comm, Bool.and_eq_true, decide_eq_true_eq] at this
          exact this.2
        have hcs : Hid (∀ c ∈ cl, c.p.data.size ≤ 500) := hid (by
          have := hf1.out
          unfold cpFew at this
          rw [eq_comm, Bool.and_eq_true, List.all_eq_true] at this
          intro c hc
          simpa using this.1 c hc)
        refine wp_gen (fun W2 => RbM W2 (w7.heap.size + 1) w7.heap.size (bkNew n) ∧ BkAt W2 p g (bkNew n) ∧ Chg NoB w W2) ⟨⟨by have := blk_new (w7.alloc (.cells (tksC (bkNew n)).toArray 73)) (.cells #[.slice (some ⟨w7.heap.size, 0, none⟩) n n] 38); simpa [bkNew] using this, blk_alloc (blk_new _ _) _, by omega, by simp [bkNew]; omega, tkOk_new n⟩, hB.out.mono ((hc7.alloc _).alloc _), ((HC.out.trans' hc7).alloc _).alloc _⟩ ?_
        rintro W2 ⟨hQ2, hB2, hC2⟩
        have HPG : Hid (p < w7.heap.size ∧ g < w7.heap.size) := hid (by have h1 := hB.out.mono hc7; exact ⟨lt_of_block h1.hd, lt_of_block h1.row⟩)
        have HI2 := hid (show _ ∧ _ ∧ _ from ⟨hQ2, hB2, hC2⟩)
        obtain ⟨pq, hpq⟩ := named (w7.heap.size + 1)
        obtain ⟨gq, hgq⟩ := named w7.heap.size
        have HGE : Hid (g ≠ pq ∧ g ≠ gq ∧ p ≠ gq) := hid (by have := HPG.out; rw [hpq.out, hgq.out]; omega)
        rw [← hpq.out, ← hgq.out] at HI2
        have HGB : Hid (w.heap.size ≤ g ∧ w.heap.size ≤ gq) := hid ⟨hgB, by rw [hgq.out]; exact (HC.out.trans' hc7).size⟩
        rw [← hpq.out]
        clear hQ2 hB2 hC2 hc7 hgB HPG hpq hgq hmk hB HC
        go_upto_region 16 with fail
        go_loopw [89] (fun i wr => ∃ k : Nat, k ≤ cl.length ∧ i = .int .i64 k ∧ Hid (RbM wr pq gq (tks (bkNew n) (cl.take k)) ∧ BkAt wr p g (tks (bkNew n) (cl.take k)) ∧ Chg NoB w wr)) (fun i _ => cl.length - (intOf i).toNat)
        case atStart => exact ⟨0, by omega, rfl, HI2⟩
        case round =>
          obtain ⟨k, hk, rfl, hI⟩ := hrel
          by_cases hlt : k < cl.length
          · obtain ⟨x, b, off, hx, rfl, c0, c1, c2, c3⟩ := Rd.cp_at HVC.out hI.out.2.2 k hlt
            have hxo := HCOK.out x (by rw [← hx.out]; exact List.getElem_mem _)
            have hxs := hcs.out x (by rw [← hx.out]; exact List.getElem_mem _)
            obtain ⟨Lk, hLk⟩ := named (tks (bkNew n) (cl.take k))
            obtain ⟨rs, hrs⟩ := named (bkTake Lk x.n x.p x.at_)
            have hst : Hid (tks (bkNew n) (cl.take (k + 1)) = rs.1) := hid (by rw [tks_snoc hlt, hx.out, ← hLk.out, hrs.out])
            rw [← hLk.out] at hI
            have hsz : x.p.data.size ≤ 2 ^ 62 := by omega
            go_upto_region 18 with fail
            refine wp_gen (fun W => Chg NoB wr W ∧ W.cell? ⟨wr.heap.size, 0, none⟩ = some (.int .i64 x.n) ∧ W.cell? ⟨wr.heap.size, 1, none⟩ = some (.int .i64 x.at_) ∧ W.cell? ⟨wr.heap.size, 2, none⟩ = some (.int .i64 x.p.at_) ∧ W.cell? ⟨wr.heap.size, 3, none⟩ = some (.string x.p.data)) ⟨(Chg.refl NoB wr).alloc _, by rw [cell_blk (blk_new _ _)]; rfl, by rw [cell_blk (blk_new _ _)]; rfl, by rw [cell_blk (blk_new _ _)]; rfl, by rw [cell_blk (blk_new _ _)]; rfl⟩ ?_
            rintro W3 ⟨hcW, d0, d1, d2, d3⟩
            have HCW := hid hcW
            have hgw : g ≠ wr.heap.size := by have := lt_of_block hI.out.2.1.row; omega
            have HGW := hid hgw
            clear hcW c0 c1 c2 c3 hgw
            go_wp2_with (first
              | (go_at_call 13; refine (bk_take_calls p g Lk x.n x.at_ x.p _ (hI.out.2.1.mono HCW.out) hsz hxo.1 hxo.2.1 rs hrs).mono ?_; rintro e w8 ⟨rfl, hB8, hC8⟩; have e0 := hC8.out.cell d0 (fun e => HGW.out (show wr.heap.size = g from e).symm); have e1 := hC8.out.cell d1 (fun e => HGW.out (show wr.heap.size = g from e).symm); have e2 := hC8.out.cell d2 (fun e => HGW.out (show wr.heap.size = g from e).symm); have e3 := hC8.out.cell d3 (fun e => HGW.out (show wr.heap.size = g from e).symm); have HQ8 : Hid (RbM w8 pq gq Lk) := hid ((hI.out.1.mono HCW.out).keep hC8.out (fun e => HGE.out.1 (show pq = g from e).symm) (fun e => HGE.out.2.1 (show gq = g from e).symm)))
              | (go_at_call 14; refine (qTake_calls pq gq Lk x.n x.at_ x.p _ HQ8.out hsz hxo.1 hxo.2.1 rs hrs).mono ?_; rintro e w9 ⟨rfl, hQ9, hC9⟩))
            have HI9 : Hid (RbM w9 pq gq (tks (bkNew n) (cl.take (k + 1))) ∧ BkAt w9 p g (tks (bkNew n) (cl.take (k + 1))) ∧ Chg NoB w w9) := hid (by
              rw [hst.out]
              exact ⟨hQ9.out, hB8.out.keep hC9.out (fun e => HGE.out.2.2 (show p = gq from e)) (fun e => HGE.out.2.1 (show g = gq from e)), ((hI.out.2.2.trans' HCW.out).new hC8.out (fun i x => by have h' : i = g := x; have := HGB.out; omega)).new hC9.out (fun i x => by have h' : i = gq := x; have := HGB.out; omega)⟩)
            clear e0 e1 e2 e3 hB8 hC8 hQ9 hC9 HQ8
            go_roundw
            case rel => exact ⟨k + 1, by omega, by go_num, HI9⟩
            case measure => simp [intOf] <;> omega
          · obtain rfl : k = cl.length := by omega
            rw [List.take_length] at hI
            obtain ⟨M, hM⟩ := named (tks (bkNew n) cl)
            rw [← hM.out] at hI
            obtain ⟨wh, hwh⟩ := named (bkWhole M)
            obtain ⟨bt, hbt⟩ := named (bkBytes M)
            have hr := hbt.out
            unfold bkBytes at hr
            rw [← hwh.out] at hr
            have HBt : Hid (bt.1 = (bkBytes M).1) := hid (by rw [hbt.out])
            cases wh
            · rw [if_neg (by decide)] at hr
              subst hr
              go_wp2_with (first
                | (go_at_call 10; refine (bk_bytes_calls p g M _ hI.out.2.1 (⟨#[]⟩, 11) hbt).mono ?_; rintro e w10 ⟨rfl, hc10⟩)
                | (go_at_call 15; refine (qWhole_calls pq _ M _ (hI.out.1.rd.mono hc10) false hwh).mono ?_; rintro e w11 ⟨rfl, hc11⟩))
              go_ret
              exact ⟨rfl, hI.out.2.2.trans' (hc10.trans' hc11)⟩
            · rw [if_pos rfl] at hr
              have hf0 : bt.2 = 0 := by rw [hr]
              have hrt : Hid (bkRead bt.1 = some M) := hid (by rw [HBt.out]; exact read_of_bytes hwh.out.symm hI.out.2.1.ok hI.out.2.1.len.1 hI.out.2.1.len.2)
              have hbs : bt.1.size ≤ 2 ^ 63 - 1 := by have := read_small hrt.out; omega
              obtain ⟨T, f⟩ := bt
              dsimp only at hf0 hrt hbs HBt
              subst hf0
              obtain ⟨fr, hfr2⟩ := named (bkFrom M)
              clear hr
              go_wp2_with (first
                | (go_at_call 10; first
                    | (with_reducible refine (bk_bytes_calls p g M _ hI.out.2.1 (T, 0) hbt).mono ?_; rintro e w10 ⟨rfl, hc10⟩; have HC10 := hid hc10; clear hc10)
                    | (with_reducible refine (bk_bytes_calls pz gz M _ HZ13.out (T, 0) hbt).mono ?_; rintro e w14 ⟨rfl, hc14⟩; have HC14 := hid (HC13.out.trans' hc14); have HZ14 := hid (HZ13.out.mono hc14); clear hc14))
                | (go_at_call 15; refine (qWhole_calls pq _ M _ (hI.out.1.rd.mono HC10.out) true hwh).mono ?_; rintro e w11 ⟨rfl, hc11⟩; have HC11 := hid (HC10.out.trans' hc11); clear hc11)
                | (go_at_call 7; with_reducible refine (rd_some hbs hrt.out).mono ?_; rintro e w12 ⟨pz, gz, rfl, hZ12, hc12⟩; have HC12 := hid (HC11.out.trans' hc12.out); clear hc12)
                | (go_at_call 11; with_reducible refine (qBytes_calls pq _ M _ (hI.out.1.rd.mono HC12.out) hwh.out.symm hI.out.1.ok hI.out.1.len.2 T HBt).mono ?_; rintro e w13 ⟨rfl, hc13⟩; have HC13 := hid (HC12.out.trans' hc13); have HZ13 := hid (hZ12.out.mono hc13); clear hc13)
                | (go_at_call 16; first
                    | (with_reducible refine (bkFrom_calls pz gz M _ HZ14.out fr hfr2).mono ?_; rintro e w15 ⟨rfl, hc15⟩; have HC15 := hid (HC14.out.trans' hc15); clear hc15)
                    | (with_reducible refine (bkFrom_calls p g M _ (hI.out.2.1.mono HC15.out) fr hfr2).mono ?_; rintro e w16 ⟨rfl, hc16⟩; have HC16 := hid (HC15.out.trans' hc16); clear hc16)))
              go_ret
              exact ⟨rfl, hI.out.2.2.trans' HC16.out⟩
end Go.Proofs.Ytghklbflbodajaa
