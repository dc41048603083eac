import Derived.Test.YtobmaipjbepphaaEntsB
import Derived.Test.YtobmaipjbepphaaPg4
import Derived.Test.YtobmaipjbepphaaOrd
import Derived.Test.YtobmaipjbepphaaPT
import Derived.Test.YtobmaipjbepphaaOwW
namespace Go.Proofs.Ytobmaipjbepphaa
open Go.RowKit Go.ChangeMaps Go.MapKept
set_option linter.unusedVariables false

/-- A transaction that is open: its row, and what stands of it. -/
structure JT where
  txn : Int
  first : Int
  last : Int
  stand : List Rec
/-- What a log has come to. -/
structure JS where
  last : Int
  op : List JT
  pg : List Pg
  beg : List (Int × Int)

def jPut (P : List Pg) (r : Rec) : List Pg :=
  if r.page < 0 ∨ (P.length : Int) ≤ r.page then P
  else if ((P.getD r.page.toNat Pg.none).put r.off r.after 0).2 = 0 then P.set r.page.toNat ((P.getD r.page.toNat Pg.none).put r.off r.after 0).1 else P
def jHas (P : List Pg) (r : Rec) : Bool :=
  if r.page < 0 ∨ (8 : Int) ≤ r.page then false
  else ((P.getD r.page.toNat Pg.none).get r.off r.before.size).2 == 0 && (((P.getD r.page.toNat Pg.none).get r.off r.before.size).1.toList == r.before.toList)
def jUndo (st : List Rec) (r : Rec) : Bool × List Rec :=
  match st.getLast? with
  | none => (false, st)
  | some c => (r.page == c.page && (r.off == c.off && (r.after.toList == c.before.toList && r.next == c.prev)), st.dropLast)
def jFind (T : List JT) (n : Int) : Option JT := T.find? (fun t => t.txn == n)
def jUpd (T : List JT) (t : JT) : List JT := T.map (fun x => if x.txn == t.txn then t else x)
def jGet (T : List JT) (a n : Int) : JT := (jFind T n).getD ⟨n, a, 0, []⟩
def jOld (T : List JT) (a n : Int) : List JT := if (jFind T n).isSome then T else T ++ [⟨n, a, 0, []⟩]
def jDel (T : List JT) (n : Int) : List JT := T.filter (fun t => !(t.txn == n))

def jOwn (s : JS) (a : Int) (r : Rec) : Bool × JS :=
  let t := jGet s.op a r.txn
  let T := jOld s.op a r.txn
  if r.kind = 1 then (jHas s.pg r && (r.prev == t.last), { s with op := jUpd T { t with last := a, stand := t.stand ++ [r] }, pg := jPut s.pg r })
  else if r.kind = 2 then ((jUndo t.stand r).1 && (r.prev == t.last), { s with op := jUpd T { t with last := a, stand := (jUndo t.stand r).2 }, pg := jPut s.pg r })
  else if r.kind = 4 then ((r.prev == t.last) && (t.stand.length == 0), { s with op := jDel T r.txn })
  else ((r.prev == t.last), { s with op := jDel T r.txn })

def jCount (B : List (Int × Int)) (n : Int) : Int := (mget B n).getD 0
def jEnt (s : JS) (x : Ent) : Bool × JS :=
  let s1 : JS := { s with last := max s.last x.at_ }
  if x.r.kind = 1 ∨ x.r.kind = 2 ∨ x.r.kind = 3 ∨ x.r.kind = 4 then ((jOwn s1 x.at_ x.r).1 && decide (s.last < x.at_), (jOwn s1 x.at_ x.r).2)
  else if x.r.kind = 5 then (decide (s.last < x.at_), { s1 with beg := mput s.beg x.at_ (jCount s.beg x.at_ + 1) })
  else if x.r.kind = 6 then (decide (s.last < x.at_) && decide (0 < jCount s.beg x.r.beg), s1)
  else (false, s1)
def jNew : JS := ⟨0, [], List.replicate 8 Pg.empty, []⟩
def jRun (s : JS) (l : List Ent) : JS := l.foldl (fun s x => (jEnt s x).2) s
def jFaults : JS → List Ent → List Ent
  | _, [] => []
  | s, x :: l => if (jEnt s x).1 then jFaults (jEnt s x).2 l else x :: jFaults (jEnt s x).2 l

/-! ### how it lies in memory -/
/-- The cells of pages. -/
def encP (p : Pg) : List Value := [.int .i64 p.at_, .string p.data]
def pgsC (l : List Pg) : List Value := l.flatMap encP
theorem pgsC_len (l : List Pg) : (pgsC l).length = l.length * 2 := by
  induction l with
  | nil => rfl
  | cons x l ih => simp only [pgsC, encP, List.flatMap_cons, List.length_append, List.length_cons, List.length_nil] at *; omega
theorem pgsC_set (l : List Pg) (k : Nat) (p : Pg) (hk : k < l.length) : (pgsC l).take (k * 2) ++ encP p ++ (pgsC l).drop (k * 2 + 2) = pgsC (l.set k p) := by
  induction l generalizing k with
  | nil => simp at hk
  | cons x l ih =>
    cases k with
    | zero => simp [pgsC, encP]
    | succ k =>
      have e : (k + 1) * 2 = k * 2 + 2 := by omega
      have := ih k (by simpa using hk)
      rw [e]
      simp only [pgsC, encP, List.flatMap_cons, List.set_cons_succ] at *
      simp [this]
theorem pgsC_get (l : List Pg) (k : Nat) (hk : k < l.length) : (pgsC l)[k * 2]? = some (.int .i64 l[k].at_) ∧ (pgsC l)[k * 2 + 1]? = some (.string l[k].data) := by
  induction l generalizing k with
  | nil => simp at hk
  | cons x l ih =>
    cases k with
    | zero => simp [pgsC, encP]
    | succ k =>
      have e : (k + 1) * 2 = k * 2 + 2 := by omega
      have := ih k (by simpa using hk)
      rw [e]
      simp only [pgsC, encP, List.flatMap_cons] at *
      simpa using this

/-- Its numbers fit, its texts are short. -/
def Rec.okk (r : Rec) : Prop := r.ok ∧ r.before.size ≤ 2 ^ 62 ∧ r.after.size ≤ 2 ^ 62
/-- A record's cells with its tables. -/
def encRv (x : Rec × Value × Value) : List Value := x.1.cs x.2.1 x.2.2
theorem encRv_len (x : Rec × Value × Value) : (encRv x).length = 11 := rfl
structure JE where
  s : JT
  b : Nat
  mv : Value
def JE.cs (e : JE) : Array Value := #[.int .i64 e.s.txn, .int .i64 e.s.first, .int .i64 e.s.last, e.mv]
def StandAt (w : World) (mv : Value) (st : List Rec) : Prop := ∃ xs : List (Rec × Value × Value), xs.map (·.1) = st ∧ OwW w 30 11 mv xs.length (xs.flatMap encRv) ∧ (∀ r ∈ st, r.okk) ∧ ∀ x ∈ xs, x.2.1.oneCell' = true ∧ x.2.2.oneCell' = true
theorem StandAt.keep {w w' : World} {mv : Value} {st : List Rec} {S : Nat → Prop} (h : StandAt w mv st) (hc : Chg S w w') (hs : ∀ k, OwnB mv k → ¬ S k) : StandAt w' mv st := by
  obtain ⟨xs, h1, h2, h3⟩ := h
  exact ⟨xs, h1, h2.keep hc hs, h3⟩
theorem StandAt.nil {w : World} : StandAt w (.slice none 0 0) [] := ⟨[], rfl, OwW.nil, by simp, by simp⟩

def JI : TI JE where
  key e := e.s.txn
  blk e := e.b
  ob e := OwnB e.mv
  ok w e := w.heap[e.b]? = some (.cells e.cs 65 (0, 0)) ∧ StandAt w e.mv e.s.stand
  keep h hc hs := ⟨hc.heap h.1 (hs _ (.inl rfl)), h.2.keep hc fun k hk => hs k (.inr hk)⟩
  lt h hk := by
    rcases hk with rfl | hk
    · exact lt_of_block h.1
    · obtain ⟨xs, _, h2, _⟩ := h.2
      exact h2.lt hk

/-- The cells of a judge. -/
def juC (last : Int) (ro : Nat) (pg : List Pg) (rb : Nat) (af : Value) : List Value := .int .i64 last :: .map (some ro) :: (pgsC pg ++ [.map (some rb), af])
/-- Of n entries the state s has come, in the object p. -/
structure JAt (w : World) (p ro rb : Nat) (E : List JE) (s : JS) (af : Value) (n : Nat) : Prop where
  blk : w.heap[p]? = some (.cells (juC s.last ro s.pg rb af).toArray 62 (0, 0))
  pt : PT JI (fun k => k = p ∨ k = rb) w ro E
  es : E.map (·.s) = s.op
  mb : MapI w rb (Value.int .i64) s.beg
  ne : p ≠ rb
  pl : s.pg.length = 8
  pr : ∀ q ∈ s.pg, q.data.size ≤ 220
  ct : (∀ t ∈ s.op, t.stand.length ≤ n) ∧ ∀ x ∈ s.beg, 0 ≤ x.2 ∧ x.2 ≤ n
def juFp (p ro rb : Nat) (E : List JE) : Nat → Prop := fun k => k = p ∨ k = rb ∨ ptFp JI ro E k
theorem JAt.lt {w : World} {p ro rb : Nat} {E : List JE} {s : JS} {af : Value} {n : Nat} (h : JAt w p ro rb E s af n) : ∀ k, juFp p ro rb E k → k < w.heap.size := by
  rintro k (rfl | rfl | hk)
  · exact lt_of_block h.blk
  · exact h.mb.lt
  · exact h.pt.lt k hk
theorem JAt.keep {w w' : World} {p ro rb : Nat} {E : List JE} {s : JS} {af : Value} {n : Nat} (h : JAt w p ro rb E s af n) {S : Nat → Prop} (hc : Chg S w w') (hs : ∀ k, S k → ¬ juFp p ro rb E k) : JAt w' p ro rb E s af n :=
  ⟨hc.heap h.blk (fun e => hs _ e (.inl rfl)), h.pt.keep hc (fun k hk e => hs k hk (.inr (.inr e))), h.es, h.mb.chg hc (fun e => hs _ e (.inr (.inl rfl))), h.ne, h.pl, h.pr, h.ct⟩
theorem JAt.keep0 {w w' : World} {p ro rb : Nat} {E : List JE} {s : JS} {af : Value} {n : Nat} (h : JAt w p ro rb E s af n) (hc : Chg NoB w w') : JAt w' p ro rb E s af n := h.keep hc fun _ e => e.elim
end Go.Proofs.Ytobmaipjbepphaa
