import Derived.Test.YtekjchphlphecaaWalkStandbyLags
namespace Go.Proofs.Ytekjchphlphecaa
open Go.RowKit Go.ChangeMaps Go.MapKept
set_option linter.unusedVariables false
set_option linter.unusedSimpArgs false
set_option linter.unnecessarySimpa false
set_option maxHeartbeats 8000000

theorem promS_calls (w0 : World) (p g rl : Nat) (lv : Value) (s : SS) (w : World) (h : StAt w0 w p g rl lv s) (hs : SInv s) (h1 : 1 ≤ s.pg.length) (hl : s.L.length ≤ 1000000) (res : List Pg × Int) (hres : Hid (res = promOf s.L (rowsS s.L) s.pg)) :
    Calls Try.prog 18 #[.pointer (some ⟨p, 0, none⟩)] w fun e w' => ∃ ao co, e = .returned (.tuple #[.slice ao res.1.length co, .int .i64 res.2]) ∧ Hid (Rd w' 1 encS (.slice ao res.1.length co) (res.1.map (·.data))) ∧ Hid (Chg NoB w w') := by
  have hR := hs.rows
  refine (promote_calls w0 p g rl lv s w h h1 hs.fit (fun x hx => (hs.okk x hx).1) hl (hR.fits fun x hx => (hs.okk x hx).1.1.2.1) ((rowsS s.L).map (·.1)) hR.perm hR.order res (hid (by rw [hR.rows]; exact hres.out))).mono ?_
  rintro e w' ⟨vo, rfl, ho, hc⟩
  obtain ⟨ao, co, rfl⟩ := ownsForm ho.out
  refine ⟨ao, co, rfl, hid ?_, hc⟩
  have := Rd.of_own (l := res.1.map (·.data)) (enc := encS) (size := 1) (fun _ => rfl) (by rw [flatMap_encS, List.map_map, List.length_map]; exact ho.out)
  simpa using this
theorem rPromS_calls (w0 : World) (p : Nat) (pv lv : Value) (s : SS) (w : World) (h : RfAt w0 w p pv lv s.pg s.L) (hs : SInv s) (h1 : 1 ≤ s.pg.length) (hl : s.L.length ≤ 1000000) (res : List Pg × Int) (hres : Hid (res = promOf s.L (rowsS s.L) s.pg)) :
    Calls Try.prog 19 #[.pointer (some ⟨p, 0, none⟩)] w fun e w' => ∃ ao co, e = .returned (.tuple #[.slice ao res.1.length co, .int .i64 res.2]) ∧ Hid (Rd w' 1 encS (.slice ao res.1.length co) (res.1.map (·.data))) ∧ Hid (Chg NoB w w') := by
  refine (rPromote_calls w0 p pv lv s.pg s.L w h h1 hs.fit (fun x hx => (hs.okk x hx).1) hl res hres).mono ?_
  rintro e w' ⟨vo, rfl, ho, hc⟩
  obtain ⟨ao, co, rfl⟩ := ownsForm ho.out
  refine ⟨ao, co, rfl, hid ?_, hc⟩
  have := Rd.of_own (l := res.1.map (·.data)) (enc := encS) (size := 1) (fun _ => rfl) (by rw [flatMap_encS, List.map_map, List.length_map]; exact ho.out)
  simpa using this
theorem pagesS_calls (w0 : World) (p g rl : Nat) (lv : Value) (s : SS) (w : World) (h : StAt w0 w p g rl lv s) :
    Calls Try.prog 21 #[.pointer (some ⟨p, 0, none⟩)] w fun e w' => ∃ ao co, e = .returned (.slice ao s.pg.length co) ∧ Hid (Rd w' 1 encS (.slice ao s.pg.length co) (s.pg.map (·.data))) ∧ Hid (Chg NoB w w') := by
  refine (pages_calls w0 p g rl lv s w h).mono ?_
  rintro e w' ⟨vo, rfl, ho, hc⟩
  obtain ⟨ao, co, rfl⟩ := ownsForm ho.out
  refine ⟨ao, co, rfl, hid ?_, hc⟩
  have := Rd.of_own (l := s.pg.map (·.data)) (enc := encS) (size := 1) (fun _ => rfl) (by rw [flatMap_encS, List.map_map, List.length_map]; exact ho.out)
  simpa using this
theorem openS_calls (w0 : World) (p g rl : Nat) (lv : Value) (s : SS) (w : World) (h : StAt w0 w p g rl lv s) (hs : SInv s) (hl : s.L.length ≤ 1000000) (ks : List Int) (hks : Hid (ks = ((rowsS s.L).map (·.1)).foldl insI [])) :
    Calls Try.prog 16 #[.pointer (some ⟨p, 0, none⟩)] w fun e w' => ∃ vo, e = .returned vo ∧ Hid (Rd w' 1 encI vo ks) ∧ Hid (Chg NoB w w') := by
  have hR := hs.rows
  have hle := h.le
  refine (open_calls w0 p g rl lv s w h (hR.fits fun x hx => (hs.okk x hx).1.1.2.1) (by omega) ks (hid (by rw [hks.out]; exact hR.open_))).mono ?_
  rintro e w' ⟨vo, rfl, ho, hc⟩
  exact ⟨vo, rfl, hid (Rd.ints_of ho.out), hc⟩
theorem rOpenS_calls (w0 : World) (p : Nat) (pv lv : Value) (P : List Pg) (L : List Ent) (w : World) (h : RfAt w0 w p pv lv P L) (hl : L.length ≤ 1000000) (ks : List Int) (hks : Hid (ks = ((rowsS L).map (·.1)).foldl insI [])) :
    Calls Try.prog 17 #[.pointer (some ⟨p, 0, none⟩)] w fun e w' => ∃ vo, e = .returned vo ∧ Hid (Rd w' 1 encI vo ks) ∧ Hid (Chg NoB w w') := by
  refine (rOpen_calls w0 p pv lv P L w h hl ks hks).mono ?_
  rintro e w' ⟨vo, rfl, ho, _, hc⟩
  exact ⟨vo, rfl, hid (OwW.rdI ho.out), hc⟩

/-- Two standbys side by side. -/
structure TwoI (w W : World) (pa ga ra : Nat) (la : Value) (sa : SS) (pb gb rb : Nat) (lb : Value) (sb : SS) : Prop where
  a : StAt w W pa ga ra la sa
  b : StAt w W pb gb rb lb sb
  dis : ∀ k, stFp pa ga ra la k → ¬ stFp pb gb rb lb k
  chg : Chg NoB w W
theorem TwoI.keep {w W W' : World} {pa ga ra pb gb rb : Nat} {la lb : Value} {sa sb : SS} (h : TwoI w W pa ga ra la sa pb gb rb lb sb) (hc : Chg NoB W W') : TwoI w W' pa ga ra la sa pb gb rb lb sb := ⟨h.a.keep0 hc, h.b.keep0 hc, h.dis, h.chg.trans' hc⟩
theorem TwoI.swap {w W : World} {pa ga ra pb gb rb : Nat} {la lb : Value} {sa sb : SS} (h : TwoI w W pa ga ra la sa pb gb rb lb sb) : TwoI w W pb gb rb lb sb pa ga ra la sa := ⟨h.b, h.a, fun k h1 h2 => h.dis k h2 h1, h.chg⟩
theorem TwoI.feed {w W : World} {pa ga ra pb gb rb : Nat} {la lb : Value} {sa sb : SS} (h : TwoI w W pa ga ra la sa pb gb rb lb sb) {v : Value} {l : List Ent} (hv : Ents w v l) (hok : ∀ x ∈ l, x.r.okk) (hl : sa.L.length + l.length ≤ 1000000) (n er : Int) (s' : SS) (hr : Hid ((n, er, s') = sFeed sa l)) :
    Calls Try.prog 11 #[.pointer (some ⟨pa, 0, none⟩), v] W fun e w' => e = .returned (.tuple #[.int .i64 n, .int .i64 er]) ∧ ∃ la', Hid (TwoI w w' pa ga ra la' s' pb gb rb lb sb) :=
  (feed_calls w pa ga ra la sa v l W h.chg h.a hv hok hl n er s' hr).mono fun e w' ⟨he, la', hI⟩ => ⟨he, la', hid ⟨hI.out.at_, h.b.keep hI.out.chg (fun k hk => ⟨h.dis k hk, .inl (h.a.fp k hk)⟩), fun k hk hb => by
    rcases hk with h1 | h1 | h1 | h1
    · exact h.dis k (.inl h1) hb
    · exact h.dis k (.inr (.inl h1)) hb
    · exact h.dis k (.inr (.inr (.inl h1))) hb
    · rcases hI.out.new _ h1 with h2 | h2
      · exact h.dis k (.inr (.inr (.inr h2))) hb
      · have := h.b.fpl k hb; omega, hI.out.chg0 h.a h.chg⟩⟩
theorem Ents.take {w : World} {a : Option Addr} {c : Nat} {l : List Ent} (h : Ents w (.slice a l.length c) l) (n : Nat) (hn : n ≤ l.length) : Ents w (.slice a n c) (l.take n) := by
  obtain ⟨a', c', e, h1, h2, h3⟩ := h
  cases e
  refine ⟨_, _, by rw [List.length_take, Nat.min_eq_left hn], by rw [List.length_take]; omega, by rw [List.length_take]; omega, fun i x hi => ?_⟩
  rw [List.getElem?_take] at hi
  split at hi
  · exact h3 i x hi
  · cases hi
theorem StAt.base {w w1 W : World} {p g rl : Nat} {s : SS} (h : StAt w1 W p g rl (.slice none 0 0) s) (hL : s.L = []) (hz : w.heap.size ≤ w1.heap.size) : StAt w W p g rl (.slice none 0 0) s :=
  ⟨h.blk, h.pgs, h.mp, by rw [hL]; exact OwnE.nil _ _ _, h.ne, ⟨by have := h.ge.1; omega, by have := h.ge.2.1; omega, by have := h.ge.2.2; omega⟩, h.l8, h.sz, h.le⟩
theorem upTo_len (s : SS) (l : List Ent) (m : Nat) : (upTo s l m).L.length ≤ s.L.length + l.length := by
  have := (sStep_len (l.take m) (0, s) (by simp)).1
  unfold upTo
  rw [List.length_take] at this
  simp only at this
  omega
end Go.Proofs.Ytekjchphlphecaa
