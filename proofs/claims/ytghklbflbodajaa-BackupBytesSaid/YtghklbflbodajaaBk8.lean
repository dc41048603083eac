import Derived.Test.YtghklbflbodajaaBk7
import Derived.Test.YtghklbflbodajaaREm
namespace Go.Proofs.Ytghklbflbodajaa
open Go.RowKit Go.ChangeMaps Go.MapKept
set_option linter.unusedVariables false
set_option linter.unusedSimpArgs false
set_option linter.unnecessarySimpa false
set_option maxHeartbeats 8000000

def bx0 : Ent := ⟨150, ⟨1, 1, 0, 0, 0, 0, 0, ⟨#[97]⟩, ⟨#[98]⟩, [], []⟩⟩
def bx0C : List Value := [.int .i64 150, .int .i64 1, .int .i64 1, .int .i64 0, .int .i64 0, .int .i64 0, .int .i64 0, .int .i64 0, .string ⟨#[97]⟩, .string ⟨#[98]⟩, .slice none 0 0, .slice none 0 0]
def bpg0 : Pg := ⟨128, Pg.empty.data⟩
def bL0 : List Tk := [⟨true, bpg0, 0⟩]
def bpgB : Pg := ⟨150, ⟨(98 :: List.replicate 219 0).toArray⟩⟩
def bpgU : Pg := ⟨150, ⟨(97 :: List.replicate 219 0).toArray⟩⟩
theorem bk_aw1 : (bL0, 0) = bkTake (bkNew 1) 0 bpg0 0 := by kernel_rfl
theorem bk_aw2 : ([bpgB], 0) = bkRoll bL0 [bx0] := by kernel_rfl
theorem bk_aw_walk : walk [bx0] 1 (goTo 0) true 150 = ([(150, bx0.r)], 0) := by
  have h1 : goTo 0 150 = true := by decide
  have h2 : entAt [bx0] 150 = some bx0.r := by rfl
  have h3 : recBad 1 150 bx0.r = false := by decide
  rw [walk_step h1 h2 h3]
  rw [walk_stop (by decide)]
theorem bk_aw_tabs : tabsOf [bx0] 0 = ([(1, 150, 150)], [(0, 150)], 0) := by
  have he : aErr [bx0] 0 = 0 := by simp [aErr, risesB]
  have hf : aFold 0 [bx0] = ⟨[(1, (1, 150, 150))], [(0, 150)]⟩ := by simp [aFold, bx0, aStep, aEnt, mput, aRow, mget, mdel]
  unfold tabsOf
  rw [if_pos he, hf]
  have s1 : sortI [1] = [1] := by kernel_rfl
  have s0 : sortI [0] = [0] := by kernel_rfl
  unfold aRows aPages
  simp only [List.map_cons, List.map_nil, s1, s0]
  rfl
theorem bk_aw_undo : undoOf [bx0] 1 150 0 = ([undoRec 1 bx0.r], 0) := by
  unfold undoOf orErr
  rw [bk_aw_walk]
  rfl
set_option maxRecDepth 100000 in
theorem bk_aw_pg : undoPg [bpgB] [undoRec 1 bx0.r] = [bpgU] := by kernel_rfl
theorem bk_aw3 : ([bpgU], 0) = bkUndo bL0 [bx0] := by
  unfold bkUndo
  rw [← bk_aw2, bk_aw_tabs]
  have hs : sortD [(1, 150, 150)] = [(1, 150, 150)] := by rfl
  simp only [if_true, hs, List.map_cons, List.map_nil]
  unfold promOf promOf
  rw [bk_aw_undo, bk_aw_pg]
  rfl
def bkS0 : ByteArray := ⟨(bkOut bL0 1).toArray⟩
theorem bk_aw4 : (bkS0, 0) = bkBytes bL0 := by kernel_rfl
theorem bkS0_size : bkS0.size = 233 := by kernel_rfl
theorem bk_aw5 : bkRead (bkS0 ++ ⟨#[120]⟩) = none := by
  refine bkRead_none ?_
  have hz : (bkS0 ++ (⟨#[120]⟩ : ByteArray)).size = 234 := by rw [ByteArray.size_append, bkS0_size]; rfl
  have hn : bkN (bkS0 ++ (⟨#[120]⟩ : ByteArray)) = 1 := by kernel_rfl
  unfold bkHead
  rw [hn, hz]
  simp
theorem bx0_okk : ∀ x ∈ [bx0], x.r.okk := by
  intro x hx
  rw [List.mem_singleton.1 hx]
  refine ⟨?_, by decide, by decide⟩
  unfold Rec.ok
  simp [bx0, fits, ByteArray.size, maxLen]
theorem bx0_ents (w : World) : Ents (w.alloc (.cells bx0C.toArray 80)) (.slice (some ⟨w.heap.size, 0, none⟩) 1 1) [bx0] :=
  Ents.of_cells (Rd.of_blk (l := [bx0]) (enc := Ent.csn) (size := 12) (fun _ => rfl) (blk_new _ _) rfl (by decide)) (by
    intro x hx
    rw [List.mem_singleton.1 hx]
    exact ⟨rfl, rfl, (bx0_okk bx0 (List.mem_singleton.2 rfl)).1, by simp [bx0, fits]⟩)
/-- The backup of awake. -/
structure BwI (w W : World) (p g : Nat) : Prop where
  bk : BkAt W p g bL0
  chg : Chg NoB w W
theorem BwI.keep {w W W' : World} {p g : Nat} (h : BwI w W p g) (hc : Chg NoB W W') : BwI w W' p g := ⟨h.bk.mono hc, h.chg.trans' hc⟩
theorem bk_whole0 : bkWhole (bkNew 1) = false := by rfl
theorem bk_whole1 : bkWhole bL0 = true := by rfl
set_option maxRecDepth 100000 in
theorem bkAwake (w : World) : Calls Try.prog 9 #[] w fun e w' => e = .returned (.bool true) ∧ Chg NoB w w' := by
  go_enter Try.func9, Try.ntmps9
  go_upto_region 3 with (first
    | (go_at_call 6; refine (bnew_calls 1 _ (by omega) (by omega)).mono ?_; rintro e w1 ⟨p, g, rfl, hB1, hC1, hp1, hg1⟩)
    | (go_at_call 19; refine (bk_whole_calls p g (bkNew 1) _ hB1.out false (hid bk_whole0.symm)).mono ?_; rintro e w2 ⟨rfl, hc2⟩))
  go_upto_region 4 with (first
    | (go_at_call 28; refine (rEmpty_calls _).mono ?_; rintro e w3 ⟨rfl, hc3⟩)
    | ((fail_if_success (fail_if_success (with_reducible change wpList _ _ _ (Oper.mk _ (.store 40 _ _) _ _ _ _ :: _) _ _))); refine step_storeRow rfl rfl w3.heap.size (cells := #[.int .i64 0, .string Pg.empty.data]) rfl rfl (blk_new _ _) (by kernel_rfl) rfl (by simp [Value.oneCell']) ?_; intro w4 hb4 hc4 hs4))
  have k0 := cell_blk hb4 0
  have f0 := frozen_blk hb4 0
  have HB4 := hid hb4
  have hc23 := hC1.out.trans' (hc2.trans' hc3)
  have HC4 := hid ((hc23.alloc (.cells #[.int .i64 0, .string ⟨#[]⟩] 40)).new hc4 (fun i x => by have h' : i = w3.heap.size := x; have := hc23.size; omega))
  have hpw := lt_of_block hB1.out.hd
  have hgw := lt_of_block hB1.out.row
  have hz3 := (hc2.trans' hc3).size
  have HK4 := hid (((hB1.out.mono (hc2.trans' hc3)).mono ((Chg.refl NoB w3).alloc (.cells #[.int .i64 0, .string ⟨#[]⟩] 40))).keep hc4 (fun e => by have h' : p = w3.heap.size := e; omega) (fun e => by have h' : g = w3.heap.size := e; omega))
  obtain ⟨pb, hpb⟩ := named w3.heap.size
  rw [← hpb.out] at HB4 k0 f0 ⊢
  have hpb2 : p ≠ pb ∧ g ≠ pb := ⟨by rw [hpb.out]; omega, by rw [hpb.out]; omega⟩
  have hpbw : w.heap.size ≤ pb := by rw [hpb.out]; exact hc23.size
  clear hb4 hc4 hs4 hB1 hC1 hc2 hc3 hc23 hpw hgw hz3 hpb
  go_upto_region 5 with fail
  have hb5 := blk_setCell HB4.out 0 (.int .i64 128)
  have HC5 := hid (HC4.out.setCell (p := ⟨pb, 0, none⟩) (.inr hpbw) (.int .i64 128))
  have HK5 := hid (HK4.out.keep (S := OneB pb) ((Chg.refl _ _).setCell (p := ⟨pb, 0, none⟩) (.inl (OneB.self pb)) (.int .i64 128)) (fun e => hpb2.1 e) (fun e => hpb2.2 e))
  refine wp_gen (fun W => W.cell? ⟨pb, 0, none⟩ = some (.int .i64 128) ∧ W.cell? ⟨pb, 1, none⟩ = some (.string Pg.empty.data) ∧ Chg NoB w W ∧ BkAt W p g (bkNew 1)) ⟨by rw [cell_blk hb5]; rfl, by rw [cell_blk hb5]; rfl, HC5.out, HK5.out⟩ ?_
  rintro W ⟨z0, z1, hcW, hkW⟩
  have HCW := hid hcW
  have HKW := hid hkW
  clear hcW hkW HC5 HK5 hb5 HK4 HC4 HB4 k0 f0
  have hed : Pg.empty.data.size ≤ 2 ^ 62 := by decide
  go_upto_region 6 with (go_at_call 13; refine (bk_take_calls p g (bkNew 1) 0 0 bpg0 _ HKW.out hed (by unfold fits; omega) (by unfold fits; omega) (bL0, 0) (hid bk_aw1)).mono ?_; rintro e w6 ⟨rfl, hB6, hC6⟩)
  have HI : Hid (BwI w w6 p g) := hid ⟨hB6.out, HCW.out.new hC6.out (fun i x => by have h' : i = g := x; omega)⟩
  clear hB6 hC6 HKW HCW z0 z1
  go_upto_region 7 with (go_at_call 17; refine (roll_calls p g bL0 _ [bx0] _ (HI.out.bk.mono ((Chg.refl NoB w6).alloc _)) (bx0_ents w6) (by decide) bx0_okk ([bpgB], 0) (hid bk_aw2)).mono ?_; rintro e w7 ⟨vr, rfl, hpb7, hc7⟩)
  have HI7 := hid ((HI.out.keep ((Chg.refl NoB w6).alloc _)).keep hc7.out)
  have hq : ∃ gq, vr = .slice (some ⟨gq, 0, none⟩) 1 1 ∧ w7.cell? ⟨gq, 0, none⟩ = some (.int .i64 150) ∧ w7.cell? ⟨gq, 1, none⟩ = some (.string bpgB.data) := by
    rcases hpb7.out with ⟨h3, _⟩ | ⟨gq, _, h3, h4⟩
    · cases h3
    · exact ⟨gq, h3, by rw [cell_blk h4]; rfl, by rw [cell_blk h4]; rfl⟩
  obtain ⟨gq, rfl, q0, q1⟩ := hq
  clear hpb7 hc7 HI
  go_upto_region 8 with (go_at_call 18; refine (undoB_calls p g bL0 _ [bx0] _ (HI7.out.bk.mono ((Chg.refl NoB w7).alloc _)) (bx0_ents w7) (by decide) (by decide) bx0_okk (by rw [bk_aw_tabs]; decide) ([bpgU], 0) (hid bk_aw3)).mono ?_; rintro e w8 ⟨vo, rfl, hO8, hc8⟩)
  have HI8 := hid ((HI7.out.keep ((Chg.refl NoB w7).alloc _)).keep hc8.out)
  have q0' := ((Chg.refl NoB w7).alloc (.cells bx0C.toArray 80)).cell q0 nob
  have q1' := ((Chg.refl NoB w7).alloc (.cells bx0C.toArray 80)).cell q1 nob
  have q0 := hc8.out.cell q0' nob
  have q1 := hc8.out.cell q1' nob
  have hu : ∃ gu cu, vo = .slice (some ⟨gu, 0, none⟩) 1 cu ∧ w8.cell? ⟨gu, 0, none⟩ = some (.string bpgU.data) := by
    rcases hO8.out.2 with ⟨_, h0⟩ | ⟨gu, cu, cur, rfl, _, hgu, _, _, _, htk⟩
    · simp at h0
    · refine ⟨gu, cu, rfl, ?_⟩
      rw [cell_blk hgu, ← Array.getElem?_toList]
      have := congrArg (·[0]?) htk
      simpa using this
  obtain ⟨gu, cu, rfl, u0⟩ := hu
  clear hO8 hc8 HI7 q0' q1'
  have hzS := bkS0_size
  have hzB : bpgB.data.size = 220 := by kernel_rfl
  have hzU : bpgU.data.size = 220 := by kernel_rfl
  have hB0 : ((bpgB.data[0]'(by rw [hzB]; decide)).toNat) = 98 := by kernel_rfl
  have hU0 : ((bpgU.data[0]'(by rw [hzU]; decide)).toNat) = 97 := by kernel_rfl
  go_upto_region 9 with (go_at_call 10; refine (bk_bytes_calls p g bL0 _ HI8.out.bk (bkS0, 0) (hid bk_aw4)).mono ?_; rintro e w9 ⟨rfl, hc9⟩)
  have HI9 := hid (HI8.out.keep hc9)
  have q0 := hc9.cell q0 nob
  have q1 := hc9.cell q1 nob
  have u0 := hc9.cell u0 nob
  have hrd := fun w => (read_calls (bkS0 ++ ⟨#[120]⟩) w (by rw [ByteArray.size_append, bkS0_size]; decide))
  have hrn : ∀ {w w' e}, RdAns (bkS0 ++ ⟨#[120]⟩) w w' e → e = .returned (.tuple #[.pointer none, .int .i64 3]) ∧ Chg NoB w w' := fun {w w' e} h => by
    unfold RdAns at h; rw [bk_aw5] at h; exact h
  clear hc9 HI8
  go_wp2_with (first
    | (go_at_call 7; refine (hrd _).mono ?_; rintro e w10 hra; obtain ⟨rfl, hc10⟩ := hrn hra; clear hra; have q0 := hc10.cell q0 nob; have q1 := hc10.cell q1 nob; have u0 := hc10.cell u0 nob; have HI10 := hid (HI9.out.keep hc10))
    | (go_at_call 19; refine (bk_whole_calls p g bL0 _ HI10.out.bk true (hid bk_whole1.symm)).mono ?_; rintro e w11 ⟨rfl, hc11⟩; have q0 := hc11.cell q0 nob; have q1 := hc11.cell q1 nob; have u0 := hc11.cell u0 nob))
  go_ret
  exact ⟨ret_bool (by rfl), HI10.out.chg.trans' hc11⟩
end Go.Proofs.Ytghklbflbodajaa
