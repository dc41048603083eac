import Derived.Test.YtkkhlomfddalnaaPut
namespace Go.Proofs.Ytkkhlomfddalnaa
open Go.RowKit Go.ChangeMaps
set_option linter.unusedVariables false

/-- Bytes that are read. -/
def encU8 (x : Int) (cs : List Value) : Prop := cs = [.int .u8 x] ∧ (Lit.int .u8 x).wf = true

theorem opens_bytes (w : World) : Opens Try.prog w 41 (fun (l : List Int) cs => ∃ v, cs = [v] ∧ RdR w 1 encU8 v l) :=
  opens_slice (size := 1) Try.underlying41 (by kernel_rfl) (by decide) (opens_int (w := w) Try.underlying5)

/-- The run's state: the list and the counts. -/
structure EndI (w wr : World) (base bl bs ba : Nat) (most : Nat) (ups undos : Nat) (S : List (Int × Rec)) : Prop where
  st : ∃ L last at_ ov, PutAt wr base bl bs ba L last at_ ov ∧ PutI L last at_ S ∧ L.length ≤ most
  chg : Chg NoB w wr
  cnt : ups = undos + S.length
  le : ups ≤ most

/-- Within what undoes: u reads as it was. -/
structure EndJ (w wr : World) (base bl bs ba : Nat) (most : Nat) (S : List (Int × Rec)) (v : Value) (us : List Rec) (j : Nat) : Prop where
  st : ∃ L last at_ ov, PutAt wr base bl bs ba L last at_ ov ∧ PutI L last at_ (S.drop j) ∧ L.length ≤ most + j ∧ ∀ k, OwnB v k → ¬ PutB bl bs ba ov k ∧ k < wr.heap.size
  chg : Chg NoB w wr
  us : wr.ownsRow 0 45 11 v us.length (us.flatMap Rec.csn)

theorem cap_of {w : World} {B : Nat} {e : TypeId} {size n m c : Nat} {a : Option Addr} {xs : List Value} (h : w.ownsRow B e size (.slice a m c) n xs) : n = m ∧ m ≤ c ∧ c ≤ 9223372036854775807 := by
  rcases h.2 with ⟨e3, h4⟩ | ⟨g, cap, cur, e3, _, _, h4, h5, _⟩
  · cases e3; omega
  · cases e3; unfold maxLen at h5; omega

/-- One more is undone. -/
theorem EndJ.put {w wr wr' : World} {base bl bs ba most : Nat} {S : List (Int × Rec)} {v : Value} {j : Nat} {L : List Ent} {last at_ : Int} {ov ov' : Value} (hl : L.length ≤ 100000) (hbase : w.heap.size ≤ bl ∧ w.heap.size ≤ bs ∧ w.heap.size ≤ ba ∧ w.heap.size ≤ base)
    (hJ : EndJ w wr base bl bs ba most S v (S.map (fun y => undoRec 1 y.2)) j) (hov : ∀ k, OwnB v k → ¬ PutB bl bs ba ov k ∧ k < wr.heap.size) (hP : PutAt wr base bl bs ba L last at_ ov) (hQ : PutI L last at_ (S.drop j)) (hL : L.length ≤ most + j) {y : Int × Rec} (hy : S[j]? = some y)
    (hP' : PutAt wr' base bl bs ba (L ++ [⟨at_, { undoRec 1 y.2 with prev := last }⟩]) at_ (at_ + 10) ov') (hc : Chg (PutB bl bs ba ov) wr wr') (hn : ∀ k, OwnB ov' k → OwnB ov k ∨ wr.heap.size ≤ k) : EndJ w wr' base bl bs ba most S v (S.map (fun y => undoRec 1 y.2)) (j + 1) := by
  obtain ⟨hjl, hje⟩ := List.getElem?_eq_some_iff.1 hy
  have hd : S.drop j = y :: S.drop (j + 1) := by rw [List.drop_eq_getElem_cons hjl, hje]
  rw [hd] at hQ
  refine ⟨⟨_, _, _, ov', hP', hQ.undo hl, by simp; omega, fun k hk => ⟨?_, Nat.lt_of_lt_of_le (hov k hk).2 hc.size⟩⟩, ?_, ownsRow.chg hJ.us hc (fun k hk => (hov k hk).1)⟩
  · obtain ⟨h1, h2⟩ := hov k hk
    rintro (h | h | h | h)
    · exact h1 (.inl h)
    · exact h1 (.inr (.inl h))
    · exact h1 (.inr (.inr (.inl h)))
    · rcases hn k h with h | h
      · exact h1 (.inr (.inr (.inr h)))
      · omega
  · refine hJ.chg.new hc fun i hi => ?_
    rcases hi with rfl | rfl | rfl | hi
    · omega
    · omega
    · omega
    · have := (OwnB.ge hP.cs.2 i hi).1; omega

theorem EndJ.keep {w wr wr' : World} {base bl bs ba most : Nat} {S : List (Int × Rec)} {v : Value} {us : List Rec} {j : Nat} (h : EndJ w wr base bl bs ba most S v us j) (hc : Chg NoB wr wr') : EndJ w wr' base bl bs ba most S v us j := by
  obtain ⟨⟨L, last, at_, ov, h1, h2, h3, h4⟩, h5, h6⟩ := h
  exact ⟨⟨L, last, at_, ov, h1.keep hc, h2, h3, fun k hk => ⟨(h4 k hk).1, Nat.lt_of_lt_of_le (h4 k hk).2 hc.size⟩⟩, h5.trans' hc, ownsRow.chg h6 hc (fun _ _ e => e)⟩

theorem EndJ.start {w wr w2 : World} {base bl bs ba most : Nat} {S : List (Int × Rec)} {L : List Ent} {last at_ : Int} {ov : Value} {a : Option Addr} {k : Nat} (hw : Chg NoB w wr) (hP : PutAt wr base bl bs ba L last at_ ov) (hQ : PutI L last at_ S) (hL : L.length ≤ most) (hc : Chg NoB wr w2)
    (ho : w2.ownsRow wr.heap.size 45 11 (.slice a (S.map (fun y => undoRec 1 y.2)).length k) (S.map (fun y => undoRec 1 y.2)).length ((S.map (fun y => undoRec 1 y.2)).flatMap Rec.csn)) : EndJ w w2 base bl bs ba most S (.slice a S.length k) (S.map (fun y => undoRec 1 y.2)) 0 := by
  have ho' : w2.ownsRow wr.heap.size 45 11 (.slice a S.length k) (S.map (fun y => undoRec 1 y.2)).length ((S.map (fun y => undoRec 1 y.2)).flatMap Rec.csn) := by
    have := ho; rw [List.length_map] at this ⊢; exact this
  refine ⟨⟨L, last, at_, ov, hP.keep hc, by simpa using hQ, by omega, fun j hj => ?_⟩, hw.trans' hc, ownsBase ho' (Nat.zero_le _)⟩
  have h1 := OwnB.ge ho' j hj
  exact ⟨fun hb => by have := hP.lt j hb; omega, h1.2⟩

theorem EndJ.cells {w wr : World} {base bl bs ba most : Nat} {S : List (Int × Rec)} {a : Option Addr} {n c : Nat} {us : List Rec} {j : Nat} (h : EndJ w wr base bl bs ba most S (.slice a n c) us j) (i : Nat) (hi : i < us.length) :
    ∃ b off, a = some ⟨b, off, none⟩ ∧ ∀ q u, (us[i].csn)[q]? = some u → wr.cell? ⟨b, off + i * 11 + q, none⟩ = some u := by
  obtain ⟨a', c', e, h1, h2, h3⟩ := Rd.of_own (fun x => by simp [Rec.csn, Rec.cs]) h.us
  cases e
  exact Rd.cells h3 (Chg.refl _ _) i hi

set_option maxRecDepth 100000 in
set_option maxHeartbeats 8000000 in
theorem chainEnds_walk (w : World) (v : Value) (l : List Int) (hv : RdR w 1 encU8 v l) :
    Calls Try.prog 4 #[v] w fun e w' => e = .returned (.bool true) ∧ Chg NoB w w' := by
  obtain ⟨a, c, rfl, q1, q2, hr⟩ := hv
  unfold maxLen at q2
  by_cases hlen : 200 < l.length
  · have hl : (200 : Int) < (l.length : Int) := by omega
    go_enter Try.func4, Try.ntmps4
    go_wp2_with (go_at_call 8; refine (awake w).mono ?_; rintro e w1 ⟨rfl, c1⟩)
    refine (awake w1).mono ?_
    rintro e w2 ⟨rfl, c2⟩
    go_wp2
    go_ret
    exact ⟨rfl, c1.trans' c2⟩
  have hl : ¬ (200 : Int) < (l.length : Int) := by omega
  have HR := hid hr
  clear hr
  go_enter Try.func4, Try.ntmps4
  go_wp2_with (go_at_call 8; refine (awake w).mono ?_; rintro e w1 ⟨rfl, c1⟩)
  obtain ⟨W0, hW0⟩ : ∃ W0, Hid (W0 = ((w1.alloc (.cells #[.slice none 0 0] 22)).alloc (.cells #[.int .i64 0] 3)).alloc (.cells #[.int .i64 128] 3)) := named _
  have hP0 : PutAt W0 (w1.heap.size + 1 + 1 + 1) (w1.heap.size + 1) w1.heap.size (w1.heap.size + 1 + 1) [] 0 128 (.slice none 0 0) := by
    rw [hW0.out]
    refine ⟨?_, ?_, ⟨blk_alloc (blk_alloc (blk_new _ _) _) _, World.ownsRow_nil _ _ _ _⟩, by simp; omega⟩
    · have := blk_alloc (blk_new (w1.alloc (.cells #[.slice none 0 0] 22)) (.cells #[.int .i64 0] 3)) (.cells #[.int .i64 128] 3)
      rwa [World.size_alloc] at this
    · have := blk_new ((w1.alloc (.cells #[.slice none 0 0] 22)).alloc (.cells #[.int .i64 0] 3)) (.cells #[.int .i64 128] 3)
      rwa [World.size_alloc, World.size_alloc] at this
  have hE0 : Hid (EndI w W0 (w1.heap.size + 1 + 1 + 1) (w1.heap.size + 1) w1.heap.size (w1.heap.size + 1 + 1) 0 0 0 []) :=
    ⟨⟨_, _, _, _, hP0, PutI.start, by simp⟩, by rw [hW0.out]; exact ((c1.alloc _).alloc _).alloc _, rfl, Nat.le_refl _⟩
  go_loopw [6, 7, 32] (fun u d i wr => ∃ k ups undos : Nat, ∃ S, k ≤ l.length ∧ i = .int .i64 k ∧ u = .int .i64 ups ∧ d = .int .i64 undos ∧ Hid (EndI w wr (w1.heap.size + 1 + 1 + 1) (w1.heap.size + 1) w1.heap.size (w1.heap.size + 1 + 1) (3 * k) ups undos S)) (fun _ _ i _ => l.length - (intOf i).toNat)
  case atStart => exact ⟨0, 0, 0, [], by omega, rfl, rfl, rfl, by rw [hW0.out] at hE0; exact hE0⟩
  case round =>
    obtain ⟨k, ups, undos, S, hk, rfl, rfl, rfl, hI⟩ := hrel
    by_cases hlt : k < l.length
    · obtain ⟨cs, b, off, ⟨rfl, hwf⟩, _, rfl, hcell⟩ := HR.out k _ (List.getElem?_eq_getElem hlt)
      have g0 := hI.out.chg.cell (hcell 0 _ rfl) (fun e => e)
      rw [Nat.mul_one, Nat.add_zero] at g0
      obtain ⟨x, hx⟩ := named (l[k])
      rw [← hx.out] at g0 hwf
      have hx1 : 0 ≤ x ∧ x < 256 := by simp [Lit.wf, IntKind.min, IntKind.max, IntKind.signed, IntKind.bits] at hwf; omega
      clear hwf hcell
      obtain ⟨hx2, hx3⟩ := hx1
      obtain ⟨L, last, at_, ov, hP, hQ, hLl⟩ := hI.out.st
      have hups := hI.out.le
      have hCW := hid hI.out.chg
      obtain rfl := hI.out.cnt
      clear hI
      have HP := hid hP
      have HQ := hid hQ
      have hL3 : L.length ≤ 600 := by omega
      have hat := hQ.at_eq
      obtain ⟨ao, co, rfl, hcl, hen⟩ := hP.ents hQ
      have hla : wr.cell? ⟨w1.heap.size + 1, 0, none⟩ = some (.int .i64 last) := by rw [cell_blk hP.cl]; rfl
      have HEN := hid hen
      clear hP hQ hen
      obtain ⟨m, hm⟩ : ∃ m : Nat, x / 3 % 4 = (m : Int) := ⟨(x / 3 % 4).toNat, by omega⟩
      have hm4 : m < 4 := by omega
      have hc1 := c1.size
      have hsub : ((undos : Int) + (S.length : Int) - (undos : Int)) = (S.length : Int) := by omega
      by_cases hx3 : 0 < x % 3
      · go_wp2_with (first
          | (go_at_call 19; refine (up_calls _ _).mono ?_; rintro e w2 ⟨rfl, c2⟩; replace c2 := hid c2)
          | (go_at_call 18; refine (put_calls w2 _ _ _ _ L last at_ _ (HP.out.keep c2.out) (upRec 0) (by omega) (by omega) (by omega)).mono ?_; rintro e w3 ⟨rfl, ov3, hP3, c3, n3⟩; replace hP3 := hid hP3; replace c3 := hid c3; replace n3 := hid n3))
        go_roundw
        case rel =>
          refine ⟨k + 1, undos + (S.length + 1), undos, (at_, upRec last) :: S, by omega, by go_num, by go_num, rfl, hid ⟨⟨_, _, _, ov3, hP3.out, HQ.out.up (by omega), by simp; omega⟩, ?_, by simp, by omega⟩⟩
          refine (hCW.out.trans' c2.out).new c3.out fun i hi => ?_
          rcases hi with rfl | rfl | rfl | hi
          · omega
          · omega
          · omega
          · have := (OwnB.ge HP.out.cs.2 i hi).1; omega
        case measure => simp [intOf]; omega
      · by_cases hms : S.length < m
        · go_wp2_with (go_at_call 14; refine (undo_calls _ L 1 last 0 _ HEN.out (by omega)).mono ?_; rintro e w2 ⟨v2, rfl, ho2, c2⟩; rw [HQ.out.undoOf] at ho2 ⊢; obtain ⟨a2, k2, rfl⟩ := ownsForm ho2; obtain ⟨_, hk21, hk22⟩ := cap_of ho2; rw [List.length_map] at hk21; replace ho2 := hid ho2; replace c2 := hid c2)
          clear hm
          go_loopw [7, 70] (fun d i wr => ∃ j : Nat, j ≤ S.length ∧ i = .int .i64 j ∧ d = .int .i64 ((undos + j : Nat) : Int) ∧ Hid (EndJ w wr (w1.heap.size + 1 + 1 + 1) (w1.heap.size + 1) w1.heap.size (w1.heap.size + 1 + 1) (3 * k) S (.slice a2 S.length k2) (S.map (fun y => undoRec 1 y.2)) j)) (fun _ i _ => S.length - (intOf i).toNat)
          case atStart => exact ⟨0, by omega, rfl, by simp, EndJ.start hCW.out HP.out HQ.out hLl c2.out ho2.out⟩
          case round =>
            obtain ⟨j, hj, rfl, rfl, hJ⟩ := hrel
            by_cases hjl : j < S.length
            · have hjs : j < (S.map (fun y => undoRec 1 y.2)).length := by rw [List.length_map]; omega
              obtain ⟨b2, o2, rfl, gc⟩ := hJ.out.cells j hjs
              obtain ⟨rr, hrr⟩ := named ((S.map (fun y => undoRec 1 y.2))[j])
              rw [← hrr.out] at gc
              have hSj : S[j]? = some S[j] := List.getElem?_eq_getElem (by omega)
              have hrr2 : rr = undoRec 1 (S[j]'(by omega)).2 := by rw [hrr.out]; simp
              have HRR := hid hrr2
              have HSJ := hid hSj
              clear hrr2 hSj
              have r0 : wr.cell? ⟨b2, o2 + j * 11, none⟩ = some (.int .i64 rr.kind) := gc 0 _ rfl
              have r1 := gc 1 _ rfl
              have r2 := gc 2 _ rfl
              have r3 := gc 3 _ rfl
              have r4 := gc 4 _ rfl
              have r5 := gc 5 _ rfl
              have r6 := gc 6 _ rfl
              have r7 := gc 7 _ rfl
              have r8 := gc 8 _ rfl
              have r9 := gc 9 _ rfl
              have r10 := gc 10 _ rfl
              clear gc
              obtain ⟨L', last', at', ov', jP, jQ, jL, jO⟩ := hJ.out.st
              have JP := hid jP
              have JQ := hid jQ
              have JO := hid jO
              have jat := jQ.at_eq
              have jL1 : L'.length ≤ 5000 := by omega
              clear jP jQ jO
              go_wp2_with (first
                | ((fail_if_success (fail_if_success (with_reducible change wpList _ _ _ (Oper.mk _ (.store 45 _ _) _ _ _ _ :: _) _ _))); refine step_storeRow rfl rfl wr.heap.size (cells := #[.int .i64 rr.kind, .int .i64 rr.txn, .int .i64 rr.page, .int .i64 rr.off, .int .i64 rr.prev, .int .i64 rr.next, .int .i64 rr.beg, .string rr.before, .string rr.after, .slice none 0 0, .slice none 0 0]) rfl rfl (blk_new _ _) (by kernel_rfl) rfl (by simp [Value.oneCell']) ?_; intro w4 hb4 hc4 hs4; replace hc4 := hid (((Chg.refl NoB wr).alloc _).trans hc4 (fun i hi => (by cases hi; exact .inr (Nat.le_refl _)))); replace hb4 := hid hb4; clear hs4)
                | ((fail_if_success (fail_if_success (with_reducible change wpList _ _ _ (Oper.mk _ (.load 45 _) _ _ _ _ :: _) _ _))); refine step_loadRow rfl rfl wr.heap.size rfl hb4.out Try.underlying45 (by kernel_rfl) ?_)
                | (go_at_call 18; refine (put_calls w4 _ _ _ _ L' last' at' _ (JP.out.keep hc4.out) rr (by omega) (by omega) (by omega)).mono ?_; rintro e w5 ⟨rfl, ov5, hP5, c5, n5⟩; replace hP5 := hid hP5; replace c5 := hid c5; replace n5 := hid n5))
              have hJ5 : EndJ w w5 (w1.heap.size + 1 + 1 + 1) (w1.heap.size + 1) w1.heap.size (w1.heap.size + 1 + 1) (3 * k) S (.slice (some ⟨b2, o2, none⟩) S.length k2) (S.map (fun y => undoRec 1 y.2)) (j + 1) := by
                have h5 := hP5.out
                rw [HRR.out] at h5
                exact EndJ.put (by omega) (by omega) (hJ.out.keep hc4.out) (fun k hk => ⟨(JO.out k hk).1, Nat.lt_of_lt_of_le (JO.out k hk).2 hc4.out.size⟩) (JP.out.keep hc4.out) JQ.out jL HSJ.out h5 c5.out n5.out
              have HJ5 := hid hJ5
              clear hJ5
              go_roundw
              case rel => exact ⟨j + 1, by omega, by go_num, by go_num, HJ5⟩
              case measure => simp [intOf]; omega
            · obtain rfl : S.length = j := by omega
              obtain ⟨L', last', at', ov', jP, jQ, jL, jO⟩ := hJ.out.st
              have hJc := hid hJ.out.chg
              go_wp2_with fail
              go_roundw
              case rel =>
                refine ⟨k + 1, undos + S.length, undos + S.length, S.drop S.length, by omega, by go_num, by go_num, rfl, hid ⟨⟨L', last', at', ov', jP, jQ, by omega⟩, hJc.out, by rw [List.length_drop]; omega, by omega⟩⟩
              case measure => simp [intOf]; omega
        · go_wp2_with (go_at_call 14; refine (undo_calls _ L 1 last 0 _ HEN.out (by omega)).mono ?_; rintro e w2 ⟨v2, rfl, ho2, c2⟩; rw [HQ.out.undoOf] at ho2 ⊢; obtain ⟨a2, k2, rfl⟩ := ownsForm ho2; obtain ⟨_, hk21, hk22⟩ := cap_of ho2; rw [List.length_map] at hk21; replace ho2 := hid ho2; replace c2 := hid c2)
          clear hm
          go_loopw [7, 70] (fun d i wr => ∃ j : Nat, j ≤ m ∧ i = .int .i64 j ∧ d = .int .i64 ((undos + j : Nat) : Int) ∧ Hid (EndJ w wr (w1.heap.size + 1 + 1 + 1) (w1.heap.size + 1) w1.heap.size (w1.heap.size + 1 + 1) (3 * k) S (.slice a2 S.length k2) (S.map (fun y => undoRec 1 y.2)) j)) (fun _ i _ => m - (intOf i).toNat)
          case atStart => exact ⟨0, by omega, rfl, by simp, EndJ.start hCW.out HP.out HQ.out hLl c2.out ho2.out⟩
          case round =>
            obtain ⟨j, hj, rfl, rfl, hJ⟩ := hrel
            by_cases hjl : j < m
            · have hjs : j < (S.map (fun y => undoRec 1 y.2)).length := by rw [List.length_map]; omega
              obtain ⟨b2, o2, rfl, gc⟩ := hJ.out.cells j hjs
              obtain ⟨rr, hrr⟩ := named ((S.map (fun y => undoRec 1 y.2))[j])
              rw [← hrr.out] at gc
              have hSj : S[j]? = some S[j] := List.getElem?_eq_getElem (by omega)
              have hrr2 : rr = undoRec 1 (S[j]'(by omega)).2 := by rw [hrr.out]; simp
              have HRR := hid hrr2
              have HSJ := hid hSj
              clear hrr2 hSj
              have r0 : wr.cell? ⟨b2, o2 + j * 11, none⟩ = some (.int .i64 rr.kind) := gc 0 _ rfl
              have r1 := gc 1 _ rfl
              have r2 := gc 2 _ rfl
              have r3 := gc 3 _ rfl
              have r4 := gc 4 _ rfl
              have r5 := gc 5 _ rfl
              have r6 := gc 6 _ rfl
              have r7 := gc 7 _ rfl
              have r8 := gc 8 _ rfl
              have r9 := gc 9 _ rfl
              have r10 := gc 10 _ rfl
              clear gc
              obtain ⟨L', last', at', ov', jP, jQ, jL, jO⟩ := hJ.out.st
              have JP := hid jP
              have JQ := hid jQ
              have JO := hid jO
              have jat := jQ.at_eq
              have jL1 : L'.length ≤ 5000 := by omega
              clear jP jQ jO
              go_wp2_with (first
                | ((fail_if_success (fail_if_success (with_reducible change wpList _ _ _ (Oper.mk _ (.store 45 _ _) _ _ _ _ :: _) _ _))); refine step_storeRow rfl rfl wr.heap.size (cells := #[.int .i64 rr.kind, .int .i64 rr.txn, .int .i64 rr.page, .int .i64 rr.off, .int .i64 rr.prev, .int .i64 rr.next, .int .i64 rr.beg, .string rr.before, .string rr.after, .slice none 0 0, .slice none 0 0]) rfl rfl (blk_new _ _) (by kernel_rfl) rfl (by simp [Value.oneCell']) ?_; intro w4 hb4 hc4 hs4; replace hc4 := hid (((Chg.refl NoB wr).alloc _).trans hc4 (fun i hi => (by cases hi; exact .inr (Nat.le_refl _)))); replace hb4 := hid hb4; clear hs4)
                | ((fail_if_success (fail_if_success (with_reducible change wpList _ _ _ (Oper.mk _ (.load 45 _) _ _ _ _ :: _) _ _))); refine step_loadRow rfl rfl wr.heap.size rfl hb4.out Try.underlying45 (by kernel_rfl) ?_)
                | (go_at_call 18; refine (put_calls w4 _ _ _ _ L' last' at' _ (JP.out.keep hc4.out) rr (by omega) (by omega) (by omega)).mono ?_; rintro e w5 ⟨rfl, ov5, hP5, c5, n5⟩; replace hP5 := hid hP5; replace c5 := hid c5; replace n5 := hid n5))
              have hJ5 : EndJ w w5 (w1.heap.size + 1 + 1 + 1) (w1.heap.size + 1) w1.heap.size (w1.heap.size + 1 + 1) (3 * k) S (.slice (some ⟨b2, o2, none⟩) S.length k2) (S.map (fun y => undoRec 1 y.2)) (j + 1) := by
                have h5 := hP5.out
                rw [HRR.out] at h5
                exact EndJ.put (by omega) (by omega) (hJ.out.keep hc4.out) (fun k hk => ⟨(JO.out k hk).1, Nat.lt_of_lt_of_le (JO.out k hk).2 hc4.out.size⟩) (JP.out.keep hc4.out) JQ.out jL HSJ.out h5 c5.out n5.out
              have HJ5 := hid hJ5
              clear hJ5
              go_roundw
              case rel => exact ⟨j + 1, by omega, by go_num, by go_num, HJ5⟩
              case measure => simp [intOf]; omega
            · obtain rfl : m = j := by omega
              obtain ⟨L', last', at', ov', jP, jQ, jL, jO⟩ := hJ.out.st
              have hJc := hid hJ.out.chg
              go_wp2_with fail
              go_roundw
              case rel =>
                refine ⟨k + 1, undos + S.length, undos + m, S.drop m, by omega, by go_num, by go_num, rfl, hid ⟨⟨L', last', at', ov', jP, jQ, by omega⟩, hJc.out, by rw [List.length_drop]; omega, by omega⟩⟩
              case measure => simp [intOf]; omega
    · obtain rfl : k = l.length := by omega
      obtain ⟨L, last, at_, ov, hP, hQ, hLl⟩ := hI.out.st
      have hups := hI.out.le
      have hCW := hid hI.out.chg
      obtain rfl := hI.out.cnt
      clear hI
      have HP := hid hP
      have HQ := hid hQ
      have hL3 : L.length ≤ 600 := by omega
      have hat := hQ.at_eq
      obtain ⟨ao, co, rfl, hcl, hen⟩ := hP.ents hQ
      have hla : wr.cell? ⟨w1.heap.size + 1, 0, none⟩ = some (.int .i64 last) := by rw [cell_blk hP.cl]; rfl
      have HEN := hid hen
      clear hP hQ hen
      have hc1 := c1.size
      go_wp2_with (go_at_call 14; refine (undo_calls _ L 1 last 0 _ HEN.out (by omega)).mono ?_; rintro e w2 ⟨v2, rfl, ho2, c2⟩; rw [HQ.out.undoOf] at ho2 ⊢; obtain ⟨a2, k2, rfl⟩ := ownsForm ho2; obtain ⟨_, hk21, hk22⟩ := cap_of ho2; rw [List.length_map] at hk21; replace ho2 := hid ho2; replace c2 := hid c2)
      go_loopw [7, 91] (fun d i wr => ∃ j : Nat, j ≤ S.length ∧ i = .int .i64 j ∧ d = .int .i64 ((undos + j : Nat) : Int) ∧ Hid (EndJ w wr (w1.heap.size + 1 + 1 + 1) (w1.heap.size + 1) w1.heap.size (w1.heap.size + 1 + 1) (3 * l.length) S (.slice a2 S.length k2) (S.map (fun y => undoRec 1 y.2)) j)) (fun _ i _ => S.length - (intOf i).toNat)
      case atStart => exact ⟨0, by omega, rfl, by simp, EndJ.start hCW.out HP.out HQ.out hLl c2.out ho2.out⟩
      case round =>
        obtain ⟨j, hj, rfl, rfl, hJ⟩ := hrel
        by_cases hjl : j < S.length
        · have hjs : j < (S.map (fun y => undoRec 1 y.2)).length := by rw [List.length_map]; omega
          obtain ⟨b2, o2, rfl, gc⟩ := hJ.out.cells j hjs
          obtain ⟨rr, hrr⟩ := named ((S.map (fun y => undoRec 1 y.2))[j])
          rw [← hrr.out] at gc
          have hSj : S[j]? = some S[j] := List.getElem?_eq_getElem (by omega)
          have hrr2 : rr = undoRec 1 (S[j]'(by omega)).2 := by rw [hrr.out]; simp
          have HRR := hid hrr2
          have HSJ := hid hSj
          clear hrr2 hSj
          have r0 : wr.cell? ⟨b2, o2 + j * 11, none⟩ = some (.int .i64 rr.kind) := gc 0 _ rfl
          have r1 := gc 1 _ rfl
          have r2 := gc 2 _ rfl
          have r3 := gc 3 _ rfl
          have r4 := gc 4 _ rfl
          have r5 := gc 5 _ rfl
          have r6 := gc 6 _ rfl
          have r7 := gc 7 _ rfl
          have r8 := gc 8 _ rfl
          have r9 := gc 9 _ rfl
          have r10 := gc 10 _ rfl
          clear gc
          obtain ⟨L', last', at', ov', jP, jQ, jL, jO⟩ := hJ.out.st
          have JP := hid jP
          have JQ := hid jQ
          have JO := hid jO
          have jat := jQ.at_eq
          have jL1 : L'.length ≤ 5000 := by omega
          clear jP jQ jO
          go_wp2_with (first
            | ((fail_if_success (fail_if_success (with_reducible change wpList _ _ _ (Oper.mk _ (.store 45 _ _) _ _ _ _ :: _) _ _))); refine step_storeRow rfl rfl wr.heap.size (cells := #[.int .i64 rr.kind, .int .i64 rr.txn, .int .i64 rr.page, .int .i64 rr.off, .int .i64 rr.prev, .int .i64 rr.next, .int .i64 rr.beg, .string rr.before, .string rr.after, .slice none 0 0, .slice none 0 0]) rfl rfl (blk_new _ _) (by kernel_rfl) rfl (by simp [Value.oneCell']) ?_; intro w4 hb4 hc4 hs4; replace hc4 := hid (((Chg.refl NoB wr).alloc _).trans hc4 (fun i hi => (by cases hi; exact .inr (Nat.le_refl _)))); replace hb4 := hid hb4; clear hs4)
            | ((fail_if_success (fail_if_success (with_reducible change wpList _ _ _ (Oper.mk _ (.load 45 _) _ _ _ _ :: _) _ _))); refine step_loadRow rfl rfl wr.heap.size rfl hb4.out Try.underlying45 (by kernel_rfl) ?_)
            | (go_at_call 18; refine (put_calls w4 _ _ _ _ L' last' at' _ (JP.out.keep hc4.out) rr (by omega) (by omega) (by omega)).mono ?_; rintro e w5 ⟨rfl, ov5, hP5, c5, n5⟩; replace hP5 := hid hP5; replace c5 := hid c5; replace n5 := hid n5))
          have hJ5 : EndJ w w5 (w1.heap.size + 1 + 1 + 1) (w1.heap.size + 1) w1.heap.size (w1.heap.size + 1 + 1) (3 * l.length) S (.slice (some ⟨b2, o2, none⟩) S.length k2) (S.map (fun y => undoRec 1 y.2)) (j + 1) := by
            have h5 := hP5.out
            rw [HRR.out] at h5
            exact EndJ.put (by omega) (by omega) (hJ.out.keep hc4.out) (fun k hk => ⟨(JO.out k hk).1, Nat.lt_of_lt_of_le (JO.out k hk).2 hc4.out.size⟩) (JP.out.keep hc4.out) JQ.out jL HSJ.out h5 c5.out n5.out
          have HJ5 := hid hJ5
          clear hJ5
          go_roundw
          case rel => exact ⟨j + 1, by omega, by go_num, by go_num, HJ5⟩
          case measure => simp [intOf]; omega
        · obtain rfl : S.length = j := by omega
          obtain ⟨L', last', at', ov', jP, jQ, jL, jO⟩ := hJ.out.st
          have hJc := hid hJ.out.chg
          rw [List.drop_length] at jQ
          obtain ⟨ao', co', rfl, hcl', hen'⟩ := jP.ents jQ
          have hla' : wr.cell? ⟨w1.heap.size + 1, 0, none⟩ = some (.int .i64 last') := by rw [cell_blk jP.cl]; rfl
          have HEN' := hid hen'
          have hlf := hid jQ.leftOf
          clear jP jQ jO hen' hcl hla
          go_wp2_with (go_at_call 12; refine (left_calls _ L' 1 last' _ HEN'.out (by omega)).mono ?_; rintro e w6 ⟨rfl, c6⟩; rw [hlf.out]; replace c6 := hid c6)
          go_ret
          exact ⟨rfl, hJc.out.trans' c6.out⟩
end Go.Proofs.Ytkkhlomfddalnaa
