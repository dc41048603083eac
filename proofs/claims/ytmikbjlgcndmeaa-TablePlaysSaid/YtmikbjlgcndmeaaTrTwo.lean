import Derived.Test.YtmikbjlgcndmeaaTrM
import Derived.Test.YtmikbjlgcndmeaaTrLaw
import Derived.Test.YtmikbjlgcndmeaaTbOp
namespace Go.Proofs.Ytmikbjlgcndmeaa
open Go.RowKit Go.ChangeMaps Go.MapKept
set_option linter.unusedVariables false
set_option linter.unusedSimpArgs false
set_option linter.unnecessarySimpa false

/-- The blocks of the reference's table. -/
def rFp (q : Nat) (lv : Value) (xs : List (TxS × Value)) : Nat → Prop := fun k => k = q ∨ OwnB lv k ∨ ∃ x ∈ xs, SlB x.2 k
theorem RtAt.fpLt {R : Rsv} {w : World} {q : Nat} {lv : Value} {xs : List (TxS × Value)} (h : RtAt R w q lv xs) : ∀ k, rFp q lv xs k → k < w.heap.size := by
  rintro k (rfl | hk | ⟨x, hx, hk⟩)
  · exact lt_of_block h.blk
  · exact h.row.lt hk
  · exact Rd.slLt (size := 2) (fun _ => rfl) (by decide) (h.mks x hx).rd hk
theorem RtAt.fpOff {R : Rsv} {w : World} {q : Nat} {lv : Value} {xs : List (TxS × Value)} (h : RtAt R w q lv xs) : ∀ k, rFp q lv xs k → R.S k := by
  rintro k (rfl | hk | ⟨x, hx, hk⟩)
  · exact h.ge
  · exact h.own k hk
  · exact ((h.mks x hx).out k hk).2.2
/-- The same table, with others kept. -/
theorem RtAt.rebase {R R' : Rsv} {w : World} {q : Nat} {lv : Value} {xs : List (TxS × Value)} (h : RtAt R w q lv xs) (hc : Chg R'.S R'.w w) (hs : ∀ k, rFp q lv xs k → R'.S k) : RtAt R' w q lv xs :=
  ⟨h.blk, h.row, fun x hx => ⟨(h.mks x hx).rd, fun k hk => ⟨((h.mks x hx).out k hk).1, ((h.mks x hx).out k hk).2.1, hs k (.inr (.inr ⟨x, hx, hk⟩))⟩⟩, h.no, fun k hk => hs k (.inr (.inl hk)), hs q (.inl rfl), hc, h.few, h.srt, h.fit⟩
theorem RtAt.keepS {R : Rsv} {w w' : World} {q : Nat} {lv : Value} {xs : List (TxS × Value)} {S : Nat → Prop} (h : RtAt R w q lv xs) (hc : Chg S w w') (hs : ∀ k, S k → ¬ rFp q lv xs k) (hR : ∀ k, S k → R.S k) : RtAt R w' q lv xs :=
  ⟨hc.heap h.blk (fun e => hs _ e (.inl rfl)), h.row.keep hc (fun k hk e => hs _ e (.inr (.inl hk))), fun x hx => ⟨(h.mks x hx).rd.keepS hc (fun k hk e => hs k e (.inr (.inr ⟨x, hx, hk⟩))), (h.mks x hx).out⟩, h.no, h.own, h.ge, h.chg.trans hc (fun k hk => .inl (hR k hk)), h.few, h.srt, h.fit⟩

/-- What was there ahead. -/
def rsv0 (w0 : World) : Rsv := ⟨w0, fun k => k < w0.heap.size, fun _ h => h⟩
theorem rsv0_chg {w0 w : World} (h : Chg (rsv0 w0).S w0 w) : Chg NoB w0 w := h.mono fun k hk => .inr (by have : ¬ k < w0.heap.size := hk; omega)

/-- Both tables. -/
def Two (R : Rsv) (w : World) (p q : Nat) (T L : TTab) : Prop := ∃ r E lv xs, E.map (·.s) = T ∧ xs.map (·.1) = L ∧ TabAt w p r E ∧ RtAt R w q lv xs ∧ (∀ k, tabFp p r E k → R.S k) ∧ ∀ k, tabFp p r E k → ¬ rFp q lv xs k
theorem Two.chg {R : Rsv} {w : World} {p q : Nat} {T L : TTab} (h : Two R w p q T L) : Chg R.S R.w w := by
  obtain ⟨r, E, lv, xs, _, _, _, h4, _⟩ := h
  exact h4.chg
theorem Two.srt {R : Rsv} {w : World} {p q : Nat} {T L : TTab} (h : Two R w p q T L) : L.Pairwise (fun a b => a.txn < b.txn) := by
  obtain ⟨r, E, lv, xs, _, rfl, _, h4, _⟩ := h
  exact h4.srt'
theorem Two.keep {R : Rsv} {w w' : World} {p q : Nat} {T L : TTab} (h : Two R w p q T L) (hc : Chg NoB w w') : Two R w' p q T L := by
  obtain ⟨r, E, lv, xs, h1, h2, h3, h4, h5, h6⟩ := h
  exact ⟨r, E, lv, xs, h1, h2, h3.keep0 hc, h4.keep hc, h5, h6⟩
/-- One block more is kept. -/
def rsvB (R : Rsv) (w : World) (o : Obj) : Rsv := ⟨w.alloc o, fun k => (R.K k ∧ k < w.heap.size) ∨ k = w.heap.size, fun k h => by simp; omega⟩
theorem Two.push {R : Rsv} {w : World} {p q : Nat} {T L : TTab} (h : Two R w p q T L) (o : Obj) : Two (rsvB R w o) (w.alloc o) p q T L := by
  obtain ⟨r, E, lv, xs, h1, h2, h3, h4, h5, h6⟩ := h
  refine ⟨r, E, lv, xs, h1, h2, h3.keep0 ((Chg.refl _ _).alloc o), (h4.keep ((Chg.refl _ _).alloc o)).rebase (Chg.refl _ _) (fun k hk => ?_), fun k hk => ?_, h6⟩
  · rintro (⟨h, _⟩ | h)
    · exact h4.fpOff k hk h
    · have := h4.fpLt k hk; omega
  · rintro (⟨h, _⟩ | h)
    · exact h5 k hk h
    · have := h3.lt k hk; omega
theorem Two.pop {R : Rsv} {w w' : World} {p q : Nat} {T L : TTab} {o : Obj} (hw : Chg R.S R.w w) (h : Two (rsvB R w o) w' p q T L) : Two R w' p q T L := by
  obtain ⟨r, E, lv, xs, h1, h2, h3, h4, h5, h6⟩ := h
  have hz := hw.size
  have key : ∀ k, (rsvB R w o).S k → R.S k := fun k hk h => hk (.inl ⟨h, by have := R.lo k h; omega⟩)
  refine ⟨r, E, lv, xs, h1, h2, h3, h4.rebase ((hw.alloc o).trans h4.chg fun k hk => .inl (key k hk)) (fun k hk => key k (h4.fpOff k hk)), fun k hk => key k (h5 k hk), h6⟩

/-- A call of the program's table. -/
theorem twP {R : Rsv} {w : World} {p q : Nat} {T L T' : TTab} (h : Two R w p q T L) {f : Nat} {args : Array Value} {Post : Ending → World → Prop}
    (hc : ∀ r E, E.map (·.s) = T → TabAt w p r E → Calls Try.prog f args w (fun e w' => Post e w' ∧ TabPost w w' p r E T')) : Calls Try.prog f args w (fun e w' => Post e w' ∧ Two R w' p q T' L) := by
  obtain ⟨r, E, lv, xs, h1, h2, h3, h4, h5, h6⟩ := h
  refine (hc r E h1 h3).mono ?_
  rintro e w' ⟨hp, ⟨E', e1, e2, e3⟩, hch⟩
  refine ⟨hp, r, E', lv, xs, e1, h2, e2, h4.keepS hch h6 h5, fun k hk => ?_, fun k hk hr => ?_⟩
  · rcases e3 k hk with h | h
    · exact h5 k h
    · exact Rsv.new h4.chg h
  · rcases e3 k hk with h | h
    · exact h6 k h hr
    · have := h4.fpLt k hr; omega
/-- A call of the reference's. -/
theorem twR {R : Rsv} {w : World} {p q : Nat} {T L : TTab} (h : Two R w p q T L) {f : Nat} {args : Array Value} {Post : Ending → TTab → World → Prop}
    (hc : ∀ R : Rsv, RT R w q L → Calls Try.prog f args w (fun e w' => ∃ L', Post e L' w' ∧ Hid (RT R w' q L'))) : Calls Try.prog f args w (fun e w' => ∃ L', Post e L' w' ∧ Two R w' p q T L') := by
  obtain ⟨r, E, lv, xs, h1, rfl, h3, h4, h5, h6⟩ := h
  refine (hc ⟨w, fun k => R.K k ∨ tabFp p r E k, ?_⟩ ⟨lv, xs, rfl, h4.rebase (Chg.refl _ _) fun k hk => ?_⟩).mono ?_
  · have := h4.chg.size
    rintro k (h | h)
    · have := R.lo k h; omega
    · exact h3.lt k h
  · rintro (h | h)
    · exact h4.fpOff k hk h
    · exact h6 k h hk
  · rintro e w' ⟨L', hp, lv', xs', rfl, hr⟩
    refine ⟨_, hp, r, E, lv', xs', h1, rfl, h3.keep hr.chg (fun k hk hf => hk (.inr hf)), hr.rebase ?_ (fun k hk hx => hr.fpOff k hk (.inl hx)), h5, fun k hk hx => hr.fpOff k hx (.inr hk)⟩
    exact h4.chg.trans hr.chg (fun k hk => .inl (fun hx => hk (.inl hx)))

section
variable {R : Rsv} {w : World} {p q : Nat} {T L : TTab}
theorem twBegin (h : Two R w p q T L) (n : Int) (res : Int) (T' : TTab) (hr : Hid ((res, T') = tBegin T n)) : Calls Try.prog 10 #[.pointer (some ⟨p, 0, none⟩), .int .i64 n] w fun e w' => e = .returned (.int .i64 res) ∧ Two R w' p q T' L :=
  twP h fun r E e1 e2 => tabBegin p r E n w e2 res T' (by rw [e1]; exact hr)
theorem twLog (h : Two R w p q T L) (n a : Int) (res : Int) (T' : TTab) (hr : Hid ((res, T') = tLog T n a)) : Calls Try.prog 11 #[.pointer (some ⟨p, 0, none⟩), .int .i64 n, .int .i64 a] w fun e w' => e = .returned (.int .i64 res) ∧ Two R w' p q T' L :=
  twP h fun r E e1 e2 => tabLog p r E n a w e2 res T' (by rw [e1]; exact hr)
theorem twLeft (h : Two R w p q T L) (n d : Int) (hd : -9223372036854775808 ≤ d ∧ d ≤ 9223372036854775807) (res : Int) (T' : TTab) (hr : Hid ((res, T') = tLeft T n d)) : Calls Try.prog 12 #[.pointer (some ⟨p, 0, none⟩), .int .i64 n, .int .i64 d] w fun e w' => e = .returned (.int .i64 res) ∧ Two R w' p q T' L :=
  twP h fun r E e1 e2 => tabLeft p r E n d w e2 hd res T' (by rw [e1]; exact hr)
theorem twMark (h : Two R w p q T L) (n l : Int) (res er : Int) (T' : TTab) (hr : Hid ((res, er, T') = tMark T n l)) : Calls Try.prog 13 #[.pointer (some ⟨p, 0, none⟩), .int .i64 n, .int .i64 l] w fun e w' => e = .returned (.tuple #[.int .i64 res, .int .i64 er]) ∧ Two R w' p q T' L :=
  twP h fun r E e1 e2 => tabMark p r E n l w e2 res er T' (by rw [e1]; exact hr)
theorem twBack (h : Two R w p q T L) (n k : Int) (ra rl er : Int) (T' : TTab) (hr : Hid ((ra, rl, er, T') = tBack T n k)) : Calls Try.prog 14 #[.pointer (some ⟨p, 0, none⟩), .int .i64 n, .int .i64 k] w fun e w' => e = .returned (.tuple #[.int .i64 ra, .int .i64 rl, .int .i64 er]) ∧ Two R w' p q T' L :=
  twP h fun r E e1 e2 => tabBack p r E n k w e2 ra rl er T' (by rw [e1]; exact hr)
theorem twEnd (h : Two R w p q T L) (n : Int) (res : Int) (T' : TTab) (hr : Hid ((res, T') = tEnd T n)) : Calls Try.prog 20 #[.pointer (some ⟨p, 0, none⟩), .int .i64 n] w fun e w' => e = .returned (.int .i64 res) ∧ Two R w' p q T' L :=
  twP h fun r E e1 e2 => tabEnd p r E n w e2 res T' (by rw [e1]; exact hr)
theorem twRow (h : Two R w p q T L) (n : Int) (x y z left er : Int) (hr : Hid (((x, y, z), left, er) = tRow T n)) : Calls Try.prog 22 #[.pointer (some ⟨p, 0, none⟩), .int .i64 n] w fun e w' => e = .returned (.tuple #[.agg #[.int .i64 x, .int .i64 y, .int .i64 z], .int .i64 left, .int .i64 er]) ∧ Two R w' p q T L ∧ Chg NoB w w' := by
  have hh := h
  obtain ⟨r, E, lv, xs, rfl, h2, h3, _⟩ := h
  refine (tabRow p r E n w h3 x y z left er hr).mono ?_
  rintro e w' ⟨rfl, hc⟩
  exact ⟨rfl, hh.keep hc, hc⟩
theorem twNeed (h : Two R w p q T L) (res : Int) (hr : Hid (res = tNeed' T)) : Calls Try.prog 27 #[.pointer (some ⟨p, 0, none⟩)] w fun e w' => e = .returned (.int .i64 res) ∧ Two R w' p q T L := by
  have hh := h
  obtain ⟨r, E, lv, xs, rfl, h2, h3, _⟩ := h
  refine (tabNeed p r E w h3 res hr).mono ?_
  rintro e w' ⟨rfl, hc⟩
  exact ⟨rfl, hh.keep hc⟩
theorem twRows (h : Two R w p q T L) (Rw : List Row3) (hr : Hid (Rw = tRows' T)) : Calls Try.prog 25 #[.pointer (some ⟨p, 0, none⟩)] w fun e w' => ∃ a c, e = .returned (.slice a Rw.length c) ∧ Hid (Rd w' 3 encRow (.slice a Rw.length c) Rw) ∧ Two R w' p q T L := by
  have hh := h
  obtain ⟨r, E, lv, xs, rfl, h2, h3, _⟩ := h
  refine (tabRows p r E w h3).mono ?_
  rintro e w' ⟨v, rfl, ho, hc⟩
  rw [← hr.out] at ho
  obtain ⟨a, c, rfl⟩ := ownsForm' ho
  exact ⟨a, c, rfl, hid (Rd.of_own (enc := encRow) (size := 3) encRow_len ho), hh.keep hc⟩

theorem rwBegin (h : Two R w p q T L) (n : Int) (res : Int) (hr : Hid (res = (tBegin L n).1)) : Calls Try.prog 15 #[.pointer (some ⟨q, 0, none⟩), .int .i64 n] w fun e w' => ∃ L', (e = .returned (.int .i64 res) ∧ L'.Perm (tBegin L n).2) ∧ Two R w' p q T L' :=
  twR h fun R' hR => (rBegin_calls R' w q L n hR res hr).mono fun e w' ⟨e1, L', h2⟩ => ⟨L', ⟨e1, h2.out.2⟩, h2.out.1⟩
theorem rwLog (h : Two R w p q T L) (n a : Int) (res : Int) (L' : TTab) (hr : Hid ((res, L') = tLog L n a)) : Calls Try.prog 16 #[.pointer (some ⟨q, 0, none⟩), .int .i64 n, .int .i64 a] w fun e w' => ∃ L2, (e = .returned (.int .i64 res) ∧ L2 = L') ∧ Two R w' p q T L2 :=
  twR h fun R' hR => (rLog_calls R' w q L n a hR res L' hr).mono fun e w' ⟨e1, h2⟩ => ⟨L', ⟨e1, rfl⟩, h2⟩
theorem rwAdd (h : Two R w p q T L) (n d : Int) (res : Int) (L' : TTab) (hr : Hid ((res, L') = tLeft L n d)) : Calls Try.prog 17 #[.pointer (some ⟨q, 0, none⟩), .int .i64 n, .int .i64 d] w fun e w' => ∃ L2, (e = .returned (.int .i64 res) ∧ L2 = L') ∧ Two R w' p q T L2 :=
  twR h fun R' hR => (rAdd_calls R' w q L n d hR res L' hr).mono fun e w' ⟨e1, h2⟩ => ⟨L', ⟨e1, rfl⟩, h2⟩
theorem rwMark (h : Two R w p q T L) (n l : Int) (rn er : Int) (L' : TTab) (hr : Hid ((rn, er, L') = tMark L n l)) : Calls Try.prog 18 #[.pointer (some ⟨q, 0, none⟩), .int .i64 n, .int .i64 l] w fun e w' => ∃ L2, (e = .returned (.tuple #[.int .i64 rn, .int .i64 er]) ∧ L2 = L') ∧ Two R w' p q T L2 :=
  twR h fun R' hR => (rMark_calls R' w q L n l hR rn er L' hr).mono fun e w' ⟨e1, h2⟩ => ⟨L', ⟨e1, rfl⟩, h2⟩
theorem rwBack (h : Two R w p q T L) (n k : Int) (ra rl er : Int) (L' : TTab) (hr : Hid ((ra, rl, er, L') = tBack L n k)) : Calls Try.prog 19 #[.pointer (some ⟨q, 0, none⟩), .int .i64 n, .int .i64 k] w fun e w' => ∃ L2, (e = .returned (.tuple #[.int .i64 ra, .int .i64 rl, .int .i64 er]) ∧ L2 = L') ∧ Two R w' p q T L2 :=
  twR h fun R' hR => (rBack_calls R' w q L n k hR ra rl er L' hr).mono fun e w' ⟨e1, h2⟩ => ⟨L', ⟨e1, rfl⟩, h2⟩
theorem rwEnd (h : Two R w p q T L) (n : Int) (res : Int) (L' : TTab) (hr : Hid ((res, L') = tEnd L n)) : Calls Try.prog 21 #[.pointer (some ⟨q, 0, none⟩), .int .i64 n] w fun e w' => ∃ L2, (e = .returned (.int .i64 res) ∧ L2 = L') ∧ Two R w' p q T L2 :=
  twR h fun R' hR => (rEnd_calls R' w q L n hR res L' hr).mono fun e w' ⟨e1, h2⟩ => ⟨L', ⟨e1, rfl⟩, h2⟩
theorem rwRow (h : Two R w p q T L) (n : Int) (x y z left er : Int) (hr : Hid (((x, y, z), left, er) = tRow L n)) : Calls Try.prog 23 #[.pointer (some ⟨q, 0, none⟩), .int .i64 n] w fun e w' => e = .returned (.tuple #[.agg #[.int .i64 x, .int .i64 y, .int .i64 z], .int .i64 left, .int .i64 er]) ∧ Two R w' p q T L ∧ Chg NoB w w' := by
  have hh := h
  obtain ⟨r, E, lv, xs, h1, rfl, h3, h4, _⟩ := h
  refine (rRow_calls _ w q _ n ⟨lv, xs, rfl, h4⟩ x y z left er hr).mono ?_
  rintro e w' ⟨rfl, _, hc⟩
  exact ⟨rfl, hh.keep hc.out, hc.out⟩
theorem rwRows (h : Two R w p q T L) (Rw : List Row3) (hr : Hid (Rw = rRows L)) : Calls Try.prog 26 #[.pointer (some ⟨q, 0, none⟩)] w fun e w' => ∃ a c, e = .returned (.slice a Rw.length c) ∧ Hid (Rd w' 3 encRow (.slice a Rw.length c) Rw) ∧ Two R w' p q T L ∧ Chg NoB w w' := by
  have hh := h
  obtain ⟨r, E, lv, xs, h1, rfl, h3, h4, _⟩ := h
  refine (rTRows_calls _ w q _ ⟨lv, xs, rfl, h4⟩ Rw hr).mono ?_
  rintro e w' ⟨a, c, rfl, h5, _, hc⟩
  exact ⟨a, c, rfl, h5, hh.keep hc.out, hc.out⟩
theorem rwNeed (h : Two R w p q T L) (res : Int) (hr : Hid (res = tNeed' L)) : Calls Try.prog 28 #[.pointer (some ⟨q, 0, none⟩)] w fun e w' => e = .returned (.int .i64 res) ∧ Two R w' p q T L := by
  have hh := h
  obtain ⟨r, E, lv, xs, h1, rfl, h3, h4, _⟩ := h
  refine (rNeed_calls _ w q _ ⟨lv, xs, rfl, h4⟩ res hr).mono ?_
  rintro e w' ⟨rfl, _, hc⟩
  exact ⟨rfl, hh.keep hc.out⟩
end
end Go.Proofs.Ytmikbjlgcndmeaa
