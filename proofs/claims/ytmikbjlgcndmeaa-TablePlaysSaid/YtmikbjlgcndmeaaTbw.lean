import Derived.Test.YtmikbjlgcndmeaaSameRows
namespace Go.Proofs.Ytmikbjlgcndmeaa
open Go.RowKit Go.ChangeMaps
set_option linter.unusedVariables false
set_option linter.unusedSimpArgs false
set_option linter.unnecessarySimpa false

/-- A table of one's own, made since w0. -/
structure TB (w0 w : World) (p : Nat) (T : TTab) : Prop where
  ex : ∃ r E, E.map (·.s) = T ∧ TabAt w p r E ∧ ∀ k, tabFp p r E k → w0.heap.size ≤ k
  chg : Chg NoB w0 w

theorem TB.keep {w0 w w' : World} {p : Nat} {T : TTab} (h : TB w0 w p T) (hc : Chg NoB w w') : TB w0 w' p T := by
  obtain ⟨⟨r, E, h1, h2, h3⟩, h4⟩ := h
  exact ⟨⟨r, E, h1, h2.keep0 hc, h3⟩, h4.trans' hc⟩

theorem TB.post {w0 w w' : World} {p r : Nat} {E : List TxE} {T : TTab} (h3 : ∀ k, tabFp p r E k → w0.heap.size ≤ k) (hc : Chg NoB w0 w) (hp : TabPost w w' p r E T) : TB w0 w' p T := by
  obtain ⟨⟨E', e1, e2, e3⟩, e4⟩ := hp
  refine ⟨⟨r, E', e1, e2, fun k hk => ?_⟩, hc.new e4 h3⟩
  rcases e3 k hk with h | h
  · exact h3 k h
  · exact Nat.le_trans hc.size h

theorem tbNew (w0 w : World) (hc : Chg NoB w0 w) : Calls Try.prog 9 #[] w fun e w' => ∃ p, e = .returned (.pointer (some ⟨p, 0, none⟩)) ∧ TB w0 w' p [] := by
  refine (tabNew w).mono ?_
  rintro e w' ⟨rfl, h, c⟩
  have hs := hc.size
  refine ⟨_, rfl, ⟨_, [], rfl, h, ?_⟩, hc.trans' c⟩
  rintro k (rfl | rfl | ⟨e, he, _⟩)
  · omega
  · omega
  · simp at he

variable {w0 w : World} {p : Nat} {T : TTab}
theorem tbBegin (h : TB w0 w p T) (n : Int) (res : Int) (T' : TTab) (hr : Hid ((res, T') = tBegin T n)) : Calls Try.prog 10 #[.pointer (some ⟨p, 0, none⟩), .int .i64 n] w fun e w' => e = .returned (.int .i64 res) ∧ TB w0 w' p T' := by
  obtain ⟨⟨r, E, rfl, h2, h3⟩, h4⟩ := h
  refine (tabBegin p r E n w h2 res T' hr).mono ?_
  rintro e w' ⟨rfl, hp⟩
  exact ⟨rfl, TB.post h3 h4 hp⟩
theorem tbLog (h : TB w0 w p T) (n a : Int) (res : Int) (T' : TTab) (hr : Hid ((res, T') = tLog T n a)) : Calls Try.prog 11 #[.pointer (some ⟨p, 0, none⟩), .int .i64 n, .int .i64 a] w fun e w' => e = .returned (.int .i64 res) ∧ TB w0 w' p T' := by
  obtain ⟨⟨r, E, rfl, h2, h3⟩, h4⟩ := h
  refine (tabLog p r E n a w h2 res T' hr).mono ?_
  rintro e w' ⟨rfl, hp⟩
  exact ⟨rfl, TB.post h3 h4 hp⟩
theorem tbLeft (h : TB w0 w p T) (n d : Int) (hd : -9223372036854775808 ≤ d ∧ d ≤ 9223372036854775807) (res : Int) (T' : TTab) (hr : Hid ((res, T') = tLeft T n d)) : Calls Try.prog 12 #[.pointer (some ⟨p, 0, none⟩), .int .i64 n, .int .i64 d] w fun e w' => e = .returned (.int .i64 res) ∧ TB w0 w' p T' := by
  obtain ⟨⟨r, E, rfl, h2, h3⟩, h4⟩ := h
  refine (tabLeft p r E n d w h2 hd res T' hr).mono ?_
  rintro e w' ⟨rfl, hp⟩
  exact ⟨rfl, TB.post h3 h4 hp⟩
theorem tbMark (h : TB w0 w p T) (n l : Int) (res er : Int) (T' : TTab) (hr : Hid ((res, er, T') = tMark T n l)) : Calls Try.prog 13 #[.pointer (some ⟨p, 0, none⟩), .int .i64 n, .int .i64 l] w fun e w' => e = .returned (.tuple #[.int .i64 res, .int .i64 er]) ∧ TB w0 w' p T' := by
  obtain ⟨⟨r, E, rfl, h2, h3⟩, h4⟩ := h
  refine (tabMark p r E n l w h2 res er T' hr).mono ?_
  rintro e w' ⟨rfl, hp⟩
  exact ⟨rfl, TB.post h3 h4 hp⟩
theorem tbBack (h : TB w0 w p T) (n k : Int) (ra rl er : Int) (T' : TTab) (hr : Hid ((ra, rl, er, T') = tBack T n k)) : Calls Try.prog 14 #[.pointer (some ⟨p, 0, none⟩), .int .i64 n, .int .i64 k] w fun e w' => e = .returned (.tuple #[.int .i64 ra, .int .i64 rl, .int .i64 er]) ∧ TB w0 w' p T' := by
  obtain ⟨⟨r, E, rfl, h2, h3⟩, h4⟩ := h
  refine (tabBack p r E n k w h2 ra rl er T' hr).mono ?_
  rintro e w' ⟨rfl, hp⟩
  exact ⟨rfl, TB.post h3 h4 hp⟩
theorem tbEnd (h : TB w0 w p T) (n : Int) (res : Int) (T' : TTab) (hr : Hid ((res, T') = tEnd T n)) : Calls Try.prog 20 #[.pointer (some ⟨p, 0, none⟩), .int .i64 n] w fun e w' => e = .returned (.int .i64 res) ∧ TB w0 w' p T' := by
  obtain ⟨⟨r, E, rfl, h2, h3⟩, h4⟩ := h
  refine (tabEnd p r E n w h2 res T' hr).mono ?_
  rintro e w' ⟨rfl, hp⟩
  exact ⟨rfl, TB.post h3 h4 hp⟩
theorem tbRow (h : TB w0 w p T) (n : Int) (x y z left er : Int) (hr : Hid (((x, y, z), left, er) = tRow T n)) : Calls Try.prog 22 #[.pointer (some ⟨p, 0, none⟩), .int .i64 n] w fun e w' => e = .returned (.tuple #[.agg #[.int .i64 x, .int .i64 y, .int .i64 z], .int .i64 left, .int .i64 er]) ∧ TB w0 w' p T := by
  have hh := h
  obtain ⟨⟨r, E, rfl, h2, h3⟩, h4⟩ := h
  refine (tabRow p r E n w h2 x y z left er hr).mono ?_
  rintro e w' ⟨rfl, hc⟩
  exact ⟨rfl, hh.keep hc⟩
theorem tbNeed (h : TB w0 w p T) (res : Int) (hr : Hid (res = tNeed' T)) : Calls Try.prog 27 #[.pointer (some ⟨p, 0, none⟩)] w fun e w' => e = .returned (.int .i64 res) ∧ TB w0 w' p T := by
  have hh := h
  obtain ⟨⟨r, E, rfl, h2, h3⟩, h4⟩ := h
  refine (tabNeed p r E w h2 res hr).mono ?_
  rintro e w' ⟨rfl, hc⟩
  exact ⟨rfl, hh.keep hc⟩
theorem encRow_len (x : Row3) : (encRow x).length = 3 := rfl
theorem tbRows (h : TB w0 w p T) (R : List Row3) (hr : Hid (R = tRows' T)) : Calls Try.prog 25 #[.pointer (some ⟨p, 0, none⟩)] w fun e w' => ∃ a c, e = .returned (.slice a R.length c) ∧ Hid (Rd w' 3 encRow (.slice a R.length c) R) ∧ TB w0 w' p T := by
  have hh := h
  obtain ⟨⟨r, E, rfl, h2, h3⟩, h4⟩ := h
  refine (tabRows p r E w h2).mono ?_
  rintro e w' ⟨v, rfl, ho, hc⟩
  rw [← hr.out] at ho
  obtain ⟨a, c, rfl⟩ := ownsForm' ho
  exact ⟨a, c, rfl, Rd.of_own encRow_len ho, hh.keep hc⟩

theorem Rd.of_blk {α : Type} {w : World} {size : Nat} {enc : α → List Value} (he : ∀ x, (enc x).length = size) {l : List α} {b : Nat} {cs : Array Value} {t : TypeId} {f : Nat × Nat} (hb : w.heap[b]? = some (.cells cs t f)) (hcs : cs.toList = l.flatMap enc) (hl : l.length ≤ maxLen) :
    Rd w size enc (.slice (some ⟨b, 0, none⟩) l.length l.length) l := by
  refine ⟨_, _, rfl, Nat.le_refl _, hl, fun i x hi => ⟨b, 0, rfl, fun j u hu => ?_⟩⟩
  have := flatMap_get he hi hu
  rw [cell_blk hb, ← Array.getElem?_toList, hcs, Nat.zero_add]
  exact this
theorem Rd.mono {α : Type} {w w' : World} {size : Nat} {enc : α → List Value} {v : Value} {l : List α} (h : Rd w size enc v l) (hc : Chg NoB w w') : Rd w' size enc v l := h.keep hc (fun _ _ _ e => e)

def awT1 : TTab := [⟨1, 0, 0, 0, []⟩]
def awT2 : TTab := [⟨1, 128, 128, 0, []⟩]
def awT3 : TTab := [⟨1, 128, 128, 1, []⟩]
def awT4 : TTab := [⟨1, 128, 128, 1, [(128, 1)]⟩]
def awT5 : TTab := [⟨1, 128, 160, 1, [(128, 1)]⟩]
def awT6 : TTab := [⟨1, 128, 160, 2, [(128, 1)]⟩]

theorem awRows : tRows' awT6 = [(1, 128, 160)] := by
  unfold tRows'
  have : sortI (awT6.map (·.txn)) = [1] := by unfold sortI awT6; simp
  rw [this]; rfl

set_option maxRecDepth 100000 in
set_option maxHeartbeats 8000000 in
theorem awake (w : World) : Calls Try.prog 8 #[] w fun e w' => e = .returned (.bool true) ∧ Chg NoB w w' := by
  go_enter Try.func8, Try.ntmps8
  go_wp2_with (go_at_call 9; refine (tbNew w w (Chg.refl _ _)).mono ?_; rintro e w1 ⟨p, rfl, h1⟩)
  refine (tbBegin h1 1 0 awT1 (hid rfl)).mono ?_
  rintro e w2 ⟨rfl, h2⟩
  clear h1
  go_wp2_with fail
  refine (tbLog h2 1 128 0 awT2 (hid rfl)).mono ?_
  rintro e w3 ⟨rfl, h3⟩
  clear h2
  go_wp2_with fail
  refine (tbLeft h3 1 1 (by decide) 0 awT3 (hid rfl)).mono ?_
  rintro e w4 ⟨rfl, h4⟩
  clear h3
  go_wp2_with fail
  refine (tbMark h4 1 1 0 0 awT4 (hid rfl)).mono ?_
  rintro e w5 ⟨rfl, h5⟩
  clear h4
  go_wp2_with fail
  refine (tbLog h5 1 160 0 awT5 (hid rfl)).mono ?_
  rintro e w6 ⟨rfl, h6⟩
  clear h5
  go_wp2_with fail
  refine (tbLeft h6 1 1 (by decide) 0 awT6 (hid rfl)).mono ?_
  rintro e w7 ⟨rfl, h7⟩
  clear h6
  go_wp2_with fail
  refine (tbNeed h7 3 (hid rfl)).mono ?_
  rintro e w8 ⟨rfl, h8⟩
  clear h7
  go_wp2_with fail
  refine (tbBack h8 1 0 128 1 0 awT6 (hid rfl)).mono ?_
  rintro e w9 ⟨rfl, h9⟩
  clear h8
  go_wp2_with fail
  refine (tbBegin h9 1 9 awT6 (hid rfl)).mono ?_
  rintro e w10 ⟨rfl, h10⟩
  clear h9
  go_wp2_with fail
  refine (tbRows h10 [(1, 128, 160)] (hid awRows.symm)).mono ?_
  rintro e w11 ⟨a, c, rfl, hr, h11⟩
  clear h10
  go_wp2_with fail
  refine (sameRows _ _ [(1, 128, 160)] [(1, 128, 160)] _ (Rd.mono hr.out ((Chg.refl NoB _).alloc _)) (Rd.of_blk (l := [(1, 128, 160)]) (enc := encRow) (size := 3) encRow_len (blk_new _ _) rfl (by decide)) true (hid (by decide))).mono ?_
  rintro e w12 ⟨rfl, n, rfl⟩
  go_wp2
  go_ret
  exact ⟨rfl, (h11.chg.alloc _).drewN n⟩
end Go.Proofs.Ytmikbjlgcndmeaa
