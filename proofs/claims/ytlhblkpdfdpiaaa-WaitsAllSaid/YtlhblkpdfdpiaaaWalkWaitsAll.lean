import Derived.Test.YtlhblkpdfdpiaaaWtAw
namespace Go.Proofs.Ytlhblkpdfdpiaaa.Wt
open Go.RowKit Go.ChangeMaps Go.MapKept Go.Shelf
attribute [local go_sem] Go.Oper.rdK
set_option linter.unusedVariables false
set_option linter.unusedSimpArgs false
set_option linter.unnecessarySimpa false
set_option maxHeartbeats 8000000

theorem nm_nodup (e : Edges) : (nm e).Nodup := srt_nodup (nm_srt e)
theorem ord_nodup {e : Edges} (h : cyc e = []) : (ord e).Nodup := (ord_perm h).nodup_iff.2 (nm_nodup e)
theorem ord_mem {e : Edges} (h : cyc e = []) (z : Int) : z ∈ ord e ↔ z ∈ nm e := (ord_perm h).mem_iff
/-- The map of names: all that edges name, each with its number. -/
def NmAt (m : List (Int × Int)) (e : Edges) (seen : List Int) : Prop := ∀ p : Int × Int, p ∈ m ↔ p.1 ∈ nm e ∧ p.2 = if p.1 ∈ seen then 2 else 1
theorem NmAt.nil : NmAt [] [] [] := fun p => by simp [nm, uset]
theorem NmAt.snoc {m : List (Int × Int)} {e : Edges} (h : NmAt m e []) (a b : Int) : NmAt (mput (mput m a 1) b 1) (e ++ [(a, b)]) [] := fun p => by
  rw [mem_mput_iff, mem_mput_iff, h p, nm_snoc]
  obtain ⟨x, y⟩ := p
  simp only [List.not_mem_nil, if_false, Prod.mk.injEq]
  constructor
  · rintro (⟨rfl, rfl⟩ | ⟨⟨rfl, rfl⟩ | ⟨⟨h1, h2⟩, h3⟩, h4⟩)
    · exact ⟨.inr (.inr rfl), rfl⟩
    · exact ⟨.inr (.inl rfl), rfl⟩
    · exact ⟨.inl h1, h2⟩
  · rintro ⟨h1, h2⟩
    by_cases hb : x = b
    · exact .inl ⟨hb, h2⟩
    · by_cases ha : x = a
      · exact .inr ⟨.inl ⟨ha, h2⟩, hb⟩
      · rcases h1 with h1 | h1 | h1
        · exact .inr ⟨.inr ⟨⟨h1, h2⟩, ha⟩, hb⟩
        · exact absurd h1 ha
        · exact absurd h1 hb
theorem NmAt.see {m : List (Int × Int)} {e : Edges} {seen : List Int} (h : NmAt m e seen) {n : Int} (hn : n ∈ nm e) : NmAt (mput m n 2) e (seen ++ [n]) := fun p => by
  rw [mem_mput_iff, h p]
  obtain ⟨x, y⟩ := p
  simp only [List.mem_append, List.mem_singleton, Prod.mk.injEq]
  constructor
  · rintro (⟨rfl, rfl⟩ | ⟨⟨h1, h2⟩, h3⟩)
    · exact ⟨hn, by simp⟩
    · exact ⟨h1, by simpa [h3] using h2⟩
  · rintro ⟨h1, h2⟩
    by_cases hx : x = n
    · exact .inl ⟨hx, by simpa [hx] using h2⟩
    · exact .inr ⟨⟨h1, by simpa [hx] using h2⟩, hx⟩
theorem NmAt.get {m : List (Int × Int)} {e : Edges} {seen : List Int} (h : NmAt m e seen) (hd : (m.map (·.1)).Nodup) {n : Int} (hn : n ∈ nm e) (hs : n ∉ seen) : (mget m n).getD 0 = 1 := by
  have := (h (n, 1)).2 ⟨hn, by simp [hs]⟩
  rw [(Go.Proofs.Ytlhblkpdfdpiaaa.mget_iff hd n 1).2 this]
  rfl
theorem NmAt.len {m : List (Int × Int)} {e : Edges} {seen : List Int} (h : NmAt m e seen) (hd : (m.map (·.1)).Nodup) : m.length = (nm e).length := by
  have hp : (m.map (·.1)).Perm (nm e) := by
    rw [List.perm_ext_iff_of_nodup hd (nm_nodup e)]
    intro z
    rw [List.mem_map]
    constructor
    · rintro ⟨p, hp, rfl⟩
      exact ((h p).1 hp).1
    · intro hz
      exact ⟨(z, if z ∈ seen then 2 else 1), (h _).2 ⟨hz, rfl⟩, rfl⟩
  have := hp.length_eq
  simpa using this

set_option maxRecDepth 100000 in
theorem waitsAll_walk (w : World) (v : Value) (l : Edges) (hv0 : RdR w 2 (fun x cs => cs = encE x ∧ wf64 x.1 ∧ wf64 x.2) v l) :
    Calls Try.prog 7 #[v] w fun e w' => e = .returned (.bool true) ∧ Chg NoB w w' := by
  obtain ⟨hv, hwf⟩ := RdE.rd hv0
  have HV := hid hv
  have HW : Hid (EdW l) := hid (EdW.of hwf)
  obtain ⟨a, c, rfl, q1, q2, hr⟩ := hv
  unfold maxLen at q2
  have HR := hid hr
  clear hv0 hwf hr
  by_cases h40 : 40 < l.length
  · have h40i : (40 : Int) < (l.length : Int) := by omega
    go_enter Try.func7, Try.ntmps7
    go_upto_region 2 with (go_at_call 8; refine (awake w).mono ?_; rintro e w1 ⟨rfl, c1⟩)
    go_wp2_with fail
    refine (awake w1).mono ?_
    rintro e w2 ⟨rfl, c2⟩
    go_wp2
    go_ret
    exact ⟨rfl, c1.out.trans' c2.out⟩
  have h40i : ¬ (40 : Int) < (l.length : Int) := by omega
  have hl : l.length ≤ 40 := by omega
  have hl2 : l.length ≤ 1000 := by omega
  clear h40
  go_enter Try.func7, Try.ntmps7
  go_upto_region 3 with (go_at_call 8; refine (awake w).mono ?_; rintro e w1 ⟨rfl, c1⟩)
  have HC1 := hid c1.out
  have HV1 := hid (HV.out.keep HC1.out (fun _ _ _ => nob))
  clear c1
  by_cases hcy : cyc l = []
  · have HCY := hid hcy
    clear hcy
    obtain ⟨O, hO⟩ := named (ord l)
    have hol : O.length ≤ 80 := by
      rw [hO.out, (ord_perm HCY.out).length_eq]
      have := nm_len l; omega
    have HND : Hid (O.Nodup ∧ (∀ z, z ∈ O ↔ z ∈ nm l) ∧ O.length = (nm l).length) := hid (by rw [hO.out]; exact ⟨ord_nodup HCY.out, ord_mem HCY.out, (ord_perm HCY.out).length_eq⟩)
    have hmm := @run_makeMap Try.prog
    go_wp2_with (go_at_call 9; refine (order_ok w1 _ l HV1.out hl2 HW.out HCY.out).mono ?_; rintro ee w2 ⟨lv, rfl, ho2, hc2⟩; rw [← hO.out] at ho2; obtain ⟨la, lc, e2⟩ := ownsForm ho2.out.1; subst e2)
    have HC2 := hid (HC1.out.trans' hc2.out)
    obtain ⟨_, _, e3, m1, m2, hr3⟩ := Rd.ints_of ho2.out.1
    cases e3
    have HR3 := hid hr3
    clear hmm ho2 hc2 hr3
    obtain ⟨r, hr0⟩ := named w2.heap.size
    have hG0 : Hid (∃ m, MapI (w2.alloc (.map #[] 0)) r (Value.int .i64) m ∧ NmAt m (l.take 0) [] ∧ Chg NoB w2 (w2.alloc (.map #[] 0)) ∧ w2.heap.size ≤ r) := hid ⟨[], by rw [hr0.out]; exact MapI.made w2 _, NmAt.nil, (Chg.refl _ _).alloc _, by rw [hr0.out]; exact Nat.le_refl _⟩
    rw [← hr0.out]
    go_loopw [37] (fun i wr => ∃ k : Nat, k ≤ l.length ∧ i = .int .i64 k ∧ Hid (∃ m, MapI wr r (Value.int .i64) m ∧ NmAt m (l.take k) [] ∧ Chg NoB w2 wr ∧ w2.heap.size ≤ r)) (fun i _ => l.length - (intOf i).toNat)
    case atStart => exact ⟨0, by omega, rfl, hG0⟩
    case round =>
      obtain ⟨k, hk, rfl, hI⟩ := hrel
      clear hG0
      obtain ⟨m, hM, hN, hC, hge⟩ := hI.out
      have HM := hid hM
      have HN := hid hN
      have HC := hid hC
      have HGE := hid hge
      clear hI hN hC hge hM
      by_cases hlt : k < l.length
      · obtain ⟨⟨a1, b1⟩, hx⟩ := named l[k]
        obtain ⟨b, off, ha, h2⟩ := Rd.cells HR.out (HC2.out.trans' HC.out) k hlt
        rw [← hx.out] at h2
        subst ha
        have g0 := h2 0 _ rfl
        have g1 := h2 1 _ rfl
        simp only [Nat.add_zero] at g0
        have HNX : Hid (NmAt (mput (mput m a1 1) b1 1) (l.take (k + 1)) []) := hid (by rw [List.take_succ_eq_append_getElem hlt, ← hx.out]; exact HN.out.snoc a1 b1)
        clear h2
        go_upto_region 10 with fail
        obtain ⟨ob, hob⟩ := named wr.heap.size
        have D0 : Hid ((wr.alloc (.cells #[.int .i64 a1, .int .i64 b1] 50)).cell? ⟨ob, 0, none⟩ = some (.int .i64 a1) ∧ (wr.alloc (.cells #[.int .i64 a1, .int .i64 b1] 50)).cell? ⟨ob, 1, none⟩ = some (.int .i64 b1) ∧ MapI (wr.alloc (.cells #[.int .i64 a1, .int .i64 b1] 50)) r (Value.int .i64) m ∧ Chg NoB wr (wr.alloc (.cells #[.int .i64 a1, .int .i64 b1] 50)) ∧ ob ≠ r) := hid ⟨by rw [hob.out, cell_blk (blk_new _ _)]; rfl, by rw [hob.out, cell_blk (blk_new _ _)]; rfl, HM.out.chg ((Chg.refl NoB wr).alloc _) nob, (Chg.refl NoB wr).alloc _, fun e => by have := HM.out.lt; rw [hob.out] at e; omega⟩
        rw [← hob.out]
        refine wp_gen (fun W => Hid (W.cell? ⟨ob, 0, none⟩ = some (.int .i64 a1) ∧ W.cell? ⟨ob, 1, none⟩ = some (.int .i64 b1) ∧ MapI W r (Value.int .i64) m ∧ Chg NoB wr W ∧ ob ≠ r)) D0 ?_
        intro W HW3
        clear D0 g0 g1
        have D0 := hid HW3.out.1
        have D1 := hid HW3.out.2.1
        have HNE : Hid (ob ≠ r) := hid HW3.out.2.2.2.2
        have hne : ∀ i, OneB r i → w2.heap.size ≤ i := fun i hi => by have hi : i = r := hi; rw [hi]; exact HGE.out
        have HNW := hid hne
        clear hne
        refine wp_region_ord 7 (.rd 0 (.rd 1 (.rd 2 (.rd 3 (.rd 4 (.rd 5 (.one 6 (.one 7 (.done))))))))) (fun w' => w'.cell? ⟨ob, 0, none⟩ = some (.int .i64 a1) ∧ w'.cell? ⟨ob, 1, none⟩ = some (.int .i64 b1)) (by kernel_rfl) (by kernel_rfl) (by kernel_rfl) (by kernel_rfl) (by kernel_rfl) (fun _ _ d _ _ h => by cases d <;> exact h) (⟨D0.out, D1.out⟩) (fun hS0 => ?_)
        refine wpOrd_rd rfl rfl (by first | decide | simp) (by assumption) (fun w' hw' K hK => by ((try unfold Same at hw'); (try go_split_ands); go_simp; exact hK)) ?_
        refine wpOrd_rd rfl rfl (by first | decide | simp) (by assumption) (fun w' hw' K hK => by ((try unfold Same at hw'); (try go_split_ands); go_simp; exact hK)) ?_
        refine wpOrd_rd rfl rfl (by first | decide | simp) (by assumption) (fun w' hw' K hK => by ((try unfold Same at hw'); (try go_split_ands); go_simp; exact hK)) ?_
        refine wpOrd_rd rfl rfl (by first | decide | simp) (by assumption) (fun w' hw' K hK => by ((try unfold Same at hw'); (try go_split_ands); go_simp; exact hK)) ?_
        refine wpOrd_rd rfl rfl (by first | decide | simp) (by assumption) (fun w' hw' K hK => by ((try unfold Same at hw'); (try go_split_ands); go_simp; exact hK)) ?_
        refine wpOrd_rd rfl rfl (by first | decide | simp) (by assumption) (fun w' hw' K hK => by ((try unfold Same at hw'); (try go_split_ands); go_simp; exact hK)) ?_
        refine wpOrd_do rfl ?_
        refine step_mapUpdate HW3.out.2.2.1.drew rfl _ _ _ 51 3 3 rfl Try.underlying51 Try.underlying3 a1 1 rfl rfl rfl ?_; intro w4 hm4 hc4 hs4
        (try dsimp only [Act.put])
        refine wpOrd_done (⟨hc4.cell D0.out (fun e => HNE.out e), hc4.cell D1.out (fun e => HNE.out e)⟩) (fun hS1 => ?_)
        refine wpOrd_do rfl ?_
        refine step_mapUpdate hm4 rfl _ _ _ 51 3 3 rfl Try.underlying51 Try.underlying3 b1 1 rfl rfl rfl ?_; intro w5 hm5 hc5 hs5
        (try dsimp only [Act.put])
        refine wpOrd_last ?_
        refine wpOrd_nil ?_
        have HC5 : Hid (Chg NoB w2 w5) := hid ((((HC.out.trans' HW3.out.2.2.2.1).drew).new hc4 HNW.out).new hc5 HNW.out)
        have HM5 := hid hm5
        clear hm4 hc4 hs4 hs5 hm5 hc5
        go_wp2_with fail
        go_roundw
        case rel => exact ⟨k + 1, by omega, by go_num, hid ⟨_, HM5.out, HNX.out, HC5.out, HGE.out⟩⟩
        case measure => simp [intOf]; omega
      · obtain rfl : l.length = k := by omega
        rw [List.take_length] at HN
        have HNM : Hid (∃ m, MapI wr r (Value.int .i64) m ∧ NmAt m l (O.take 0) ∧ Chg NoB w2 wr) := hid ⟨m, HM.out, HN.out, HC.out⟩
        clear HM HN HC
        rename World => wq
        go_wp2_with fail
        go_loopw [50] (fun i wr => ∃ j : Nat, j ≤ O.length ∧ i = .int .i64 j ∧ Hid (∃ m, MapI wr r (Value.int .i64) m ∧ NmAt m l (O.take j) ∧ Chg NoB w2 wr)) (fun i _ => O.length - (intOf i).toNat)
        case atStart => exact ⟨0, by omega, rfl, HNM⟩
        case round =>
          obtain ⟨j, hj, rfl, hI⟩ := hrel
          clear HNM
          obtain ⟨m, hM, hN, hC⟩ := hI.out
          have HM := hid hM
          have HN := hid hN
          have HC := hid hC
          clear hI hN hC hM
          by_cases hlt : j < O.length
          · obtain ⟨n, hn⟩ := named O[j]
            obtain ⟨b, off, ha, h2⟩ := Rd.cells HR3.out HC.out j hlt
            rw [← hn.out] at h2
            subst ha
            have g0 := h2 0 _ rfl
            simp only [Nat.add_zero, Nat.mul_one] at g0
            have hin : n ∈ nm l := (HND.out.2.1 n).1 (by rw [hn.out]; exact List.getElem_mem hlt)
            have hns : n ∉ O.take j := by
              intro h
              obtain ⟨i, hi, he⟩ := List.getElem_of_mem h
              rw [List.getElem_take] at he
              rw [List.length_take] at hi
              have hij : i = j := (List.getElem_inj HND.out.1).1 (by rw [he, hn.out])
              omega
            have hget : Hid ((mget m n).getD 0 = 1) := hid (HN.out.get HM.out.nodup hin hns)
            have HNX : Hid (NmAt (mput m n 2) l (O.take (j + 1))) := hid (by rw [List.take_succ_eq_append_getElem hlt, ← hn.out]; exact HN.out.see hin)
            have HGE2 := HGE.out
            clear h2 hin hns
            go_wp2_with (first
              | (at_lookup; refine step_lookup_int HM.out rfl _ _ 51 3 3 rfl Try.underlying51 Try.underlying3 (zero_int _) n rfl rfl ?_; rw [hget.out])
              | (at_mapUpdate; refine step_mapUpdate HM.out rfl _ _ _ 51 3 3 rfl Try.underlying51 Try.underlying3 n 2 rfl rfl rfl ?_; intro w6 hm6 hc6 hs6))
            have HM6 := hid hm6
            have HC6 : Hid (Chg NoB w2 w6) := hid (HC.out.new hc6 (fun i hi => by have hi : i = r := hi; rw [hi]; exact HGE.out))
            clear hm6 hc6 hs6
            go_wp2_with fail
            go_roundw
            case rel => exact ⟨j + 1, by omega, by go_num, hid ⟨_, HM6.out, HNX.out, HC6.out⟩⟩
            case measure => simp [intOf]; omega
          · obtain rfl : O.length = j := by omega
            have hml := HN.out.len HM.out.nodup
            have hz : ((O.length : Int) == (m.length : Int)) = true := by rw [hml, HND.out.2.2]; simp
            have hlen := HM.out.len (P := Try.prog) Try.underlying51 3
            have HCE := hid (HC2.out.trans' HC.out)
            clear hml
            go_wp2_with fail
            go_ret
            exact ⟨rfl, HCE.out⟩
  · have hlen0 : 0 < (cyc l).length := List.length_pos_iff.2 hcy
    have HCY := hid hcy
    have hli : (0 : Int) < ((cyc l).length : Int) := by omega
    clear hcy
    go_wp2_with (first
      | (go_at_call 9; refine (order_cyc w1 _ l HV1.out hl2 HW.out HCY.out).mono ?_; rintro ee w2 ⟨rfl, c2⟩)
      | (go_at_call 12; refine (cycle_calls w2 _ l (HV1.out.keep c2.out (fun _ _ _ => nob)) hl2 HW.out).mono ?_; rintro ee w3 ⟨v3, rfl, h3, c3⟩; obtain ⟨a3, n3, e3⟩ := ownsForm h3.out.1; subst e3))
    go_ret
    exact ⟨rfl, HC1.out.trans' (c2.out.trans' c3.out)⟩
end Go.Proofs.Ytlhblkpdfdpiaaa.Wt
namespace Go.Proofs.Ytlhblkpdfdpiaaa
export Wt (waitsAll_walk)
end Go.Proofs.Ytlhblkpdfdpiaaa
