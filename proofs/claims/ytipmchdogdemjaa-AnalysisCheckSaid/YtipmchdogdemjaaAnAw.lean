import Derived.Test.YtipmchdogdemjaaAnHor
import Derived.Test.YtipmchdogdemjaaEntsB
namespace Go.Proofs.Ytipmchdogdemjaa
open Go.RowKit Go.ChangeMaps Go.MapKept
set_option linter.unusedVariables false

theorem sortI_eq {l t : List Int} (hn : l.Nodup) (ht : t.Pairwise (fun a b => a < b)) (hm : ∀ x, x ∈ l ↔ x ∈ t) : sortI l = t :=
  lt_ext (sortI_lt hn) ht fun x => by rw [sortI_mem]; exact hm x

def awL : List Ent := [⟨128, ⟨1, 1, 2, 0, 0, 0, 0, ⟨#[]⟩, ⟨#[]⟩, [], []⟩⟩, ⟨150, ⟨1, 2, 0, 0, 0, 0, 0, ⟨#[]⟩, ⟨#[]⟩, [], []⟩⟩, ⟨170, ⟨3, 1, 0, 0, 0, 0, 0, ⟨#[]⟩, ⟨#[]⟩, [], []⟩⟩]
theorem awL_ok : ∀ x ∈ awL, x.r.txns = [] ∧ x.r.pages = [] ∧ x.r.ok ∧ fits x.at_ := by
  intro x hx
  simp only [awL, List.mem_cons, List.not_mem_nil, or_false] at hx
  have hs : (⟨#[]⟩ : ByteArray).size ≤ maxLen := by simp [maxLen, ByteArray.size]
  rcases hx with rfl | rfl | rfl <;> refine ⟨rfl, rfl, ⟨?_, ?_, ?_, ?_, ?_, ?_, ?_, hs, hs, by simp, by simp⟩, ?_⟩ <;> (unfold fits; dsimp only; decide)
def awC : Array Value := #[.int .i64 128, .int .i64 1, .int .i64 1, .int .i64 2, .int .i64 0, .int .i64 0, .int .i64 0, .int .i64 0, .string ⟨#[]⟩, .string ⟨#[]⟩, .slice none 0 0, .slice none 0 0, .int .i64 150, .int .i64 1, .int .i64 2, .int .i64 0, .int .i64 0, .int .i64 0, .int .i64 0, .int .i64 0, .string ⟨#[]⟩, .string ⟨#[]⟩, .slice none 0 0, .slice none 0 0, .int .i64 170, .int .i64 3, .int .i64 1, .int .i64 0, .int .i64 0, .int .i64 0, .int .i64 0, .int .i64 0, .string ⟨#[]⟩, .string ⟨#[]⟩, .slice none 0 0, .slice none 0 0]
theorem awC_eq : awC.toList = awL.flatMap Ent.csn := by rfl
theorem awL_ents (w : World) : Ents (w.alloc (.cells awC 30)) (.slice (some ⟨w.heap.size, 0, none⟩) 3 3) awL :=
  Ents.of_cells (Rd.of_blk (l := awL) (enc := Ent.csn) (size := 12) (fun x => rfl) (blk_new w (.cells awC 30)) awC_eq (by simp [awL, maxLen])) awL_ok
theorem aw_fold : aFold 0 awL = ⟨[(2, (2, 150, 150))], [(2, 128), (0, 150)]⟩ := by
  simp [aFold, awL, aStep, aEnt, mput, aRow, mget, mdel]
theorem aw_err : aErr awL 0 = 0 := by simp [aErr, awL, risesB]
theorem aw_tabs : tabsOf awL 0 = ([(2, 150, 150)], [(0, 150), (2, 128)], 0) := by
  unfold tabsOf
  rw [if_pos aw_err, aw_fold]
  unfold aRows aPages
  simp only [List.map_cons, List.map_nil]
  rw [sortI_eq (l := [2]) (t := [2]) (by decide) (by decide) (by simp), sortI_eq (l := [2, 0]) (t := [0, 2]) (by decide) (by decide) (by intro x; simp; omega)]
  simp [mget]
theorem aw_tabs2 : tabsOf awL 150 = ([], [], 7) := by
  have : aErr awL 150 = 7 := by simp [aErr, awL, risesB, isBegin]
  unfold tabsOf
  rw [if_neg (by rw [this]; decide), this]

set_option maxRecDepth 100000 in
set_option maxHeartbeats 8000000 in
theorem awake (w : World) : Calls Try.prog 5 #[] w fun e w' => e = .returned (.bool true) ∧ Chg NoB w w' := by
  have hE : Hid (entsW awL ≤ 1000000) := hid (by simp [entsW, awL])
  go_enter Try.func5, Try.ntmps5
  have HL : Hid (Ents (w.alloc (.cells awC 30)) (.slice (some ⟨w.heap.size, 0, none⟩) 3 3) awL ∧ Chg NoB w (w.alloc (.cells awC 30))) := hid ⟨awL_ents w, (Chg.refl NoB w).alloc _⟩
  unfold awC at HL
  go_upto_region 1 with fail
  go_cut [1] (fun s1 wx => ∃ b : Nat, s1 = .slice (some ⟨b, 0, none⟩) 3 3 ∧ Hid (Ents wx (.slice (some ⟨b, 0, none⟩) 3 3) awL ∧ Chg NoB w wx))
  case first =>
    go_wp2_with fail
    go_meet
    exact ⟨_, rfl, HL⟩
  case rest =>
    obtain ⟨b, rfl, hL⟩ := hcut
    have HT1 := hid aw_tabs.symm
    have HT2 := hid aw_tabs2.symm
    go_wp2_with fail
    refine (tables_calls _ awL 0 _ hL.out.1 hE.out [(2, 150, 150)] [(0, 150), (2, 128)] 0 HT1).mono ?_
    rintro e w2 ⟨v1, v2, rfl, h1, h2, h3⟩
    obtain ⟨a1, n1, rfl⟩ := ownsForm h1
    obtain ⟨a2, n2, rfl⟩ := ownsForm h2
    replace h1 := hid h1; replace h2 := hid h2; replace h3 := hid h3
    simp only [List.length_cons, List.length_nil, Nat.zero_add, Nat.reduceAdd]
    go_wp2_with fail
    refine (tables_calls _ awL 150 _ (hL.out.1.mono h3.out) hE.out [] [] 7 HT2).mono ?_
    rintro e w3 ⟨v3, v4, rfl, h4, h5, h6⟩
    have h3' := h3.out
    have g1 := Rd.of_own (l := [((2 : Int), (150 : Int), (150 : Int))]) (enc := encTx) (size := 3) (fun _ => rfl) (ownsRow.chg h1.out h6 (fun _ _ e => e))
    have g2 := Rd.of_own (l := [((0 : Int), (150 : Int)), (2, 128)]) (enc := encPg) (size := 2) (fun _ => rfl) (ownsRow.chg h2.out h6 (fun _ _ e => e))
    obtain ⟨a3, n3, rfl⟩ := ownsForm h4
    obtain ⟨a4, n4, rfl⟩ := ownsForm h5
    have G1 := hid g1
    have G2 := hid g2
    have C3 := hid (hL.out.2.trans' (h3'.trans' h6))
    clear h1 h2 h4 h5 h6 g1 g2 h3' h3 hL
    simp only [List.length_nil]
    go_wp2_with fail
    refine (sameRows _ _ [(2, 150, 150)] [(2, 150, 150)] _ (Rd.mono G1.out ((Chg.refl NoB _).alloc _)) (Rd.of_blk (l := [(2, 150, 150)]) (enc := encTx) (size := 3) (fun _ => rfl) (blk_new _ _) rfl (by decide)) true (hid (by decide))).mono ?_
    rintro e w4 ⟨rfl, n4, h4⟩
    have C4 : Hid (Chg NoB w3 w4) := hid (by rw [h4]; exact ((Chg.refl NoB _).alloc _).drewN _)
    clear h4
    go_wp2_with fail
    refine (samePags _ _ [(0, 150), (2, 128)] [(0, 150), (2, 128)] _ (Rd.mono G2.out (C4.out.alloc _)) (Rd.of_blk (l := [(0, 150), (2, 128)]) (enc := encPg) (size := 2) (fun _ => rfl) (blk_new _ _) rfl (by decide)) true (hid (by decide))).mono ?_
    rintro e w5 ⟨rfl, n5, h5⟩
    have C5 : Hid (Chg NoB w3 w5) := hid (by rw [h5]; exact (C4.out.alloc _).drewN _)
    clear h5
    go_wp2_with fail
    refine (from_calls 0 _ [(0, 150), (2, 128)] _ (Rd.mono G2.out C5.out) 0 150 [(2, 128)] rfl 128 (hid (by decide))).mono ?_
    rintro e w6 ⟨rfl, h6⟩
    have C6 := hid (C5.out.trans' h6)
    clear h6
    go_wp2_with fail
    refine (hor_calls 200 rfl _ [(2, 150, 150)] _ [(0, 150), (2, 128)] _ (Rd.mono G1.out C6.out) (Rd.mono G2.out C6.out) 128 (hid (by decide))).mono ?_
    rintro e w7 ⟨rfl, h7⟩
    go_wp2
    go_ret
    exact ⟨rfl, C3.out.trans' (C6.out.trans' h7)⟩
end Go.Proofs.Ytipmchdogdemjaa
