import Derived.Test.YtobmaipjbepphaaJuE
import Derived.Test.YtobmaipjbepphaaJuB
import Derived.Test.YtobmaipjbepphaaSameR4
namespace Go.Proofs.Ytobmaipjbepphaa
open Go.RowKit Go.ChangeMaps Go.MapKept
set_option linter.unusedVariables false
set_option maxHeartbeats 8000000

/-- Element k of a list of entries. -/
theorem Ents.at {w wr : World} {a : Option Addr} {l : List Ent} (h : ∀ i x, l[i]? = some x → ∃ cs b off, EntAt w x cs ∧ cs.length = 12 ∧ a = some ⟨b, off, none⟩ ∧ ∀ j u, cs[j]? = some u → w.cell? ⟨b, off + i * 12 + j, none⟩ = some u)
    (hc : Chg NoB w wr) (k : Nat) (hk : k < l.length) : ∃ x b off v1 v2, Hid (l[k] = x) ∧ a = some ⟨b, off, none⟩ ∧ Tabs w x.r v1 v2 ∧ Hid (x.r.ok ∧ fits x.at_) ∧ EtAt wr b (off + k * 12) x v1 v2 ∧ b < w.heap.size ∧ (v1.oneCell' = true ∧ v2.oneCell' = true) := by
  obtain ⟨cs, b, off, ⟨v1, v2, rfl, ht, hok⟩, _, ha, h2⟩ := h k _ (List.getElem?_eq_getElem hk)
  have g : ∀ j u, (Value.int .i64 l[k].at_ :: l[k].r.cs v1 v2)[j]? = some u → wr.cell? ⟨b, off + k * 12 + j, none⟩ = some u := fun j u hu => hc.cell (h2 j u hu) (fun e => e)
  refine ⟨l[k], b, off, v1, v2, rfl, ha, ht, hok, ⟨g 0 _ rfl, fun j u hu => ?_⟩, World.block_lt_of_cell? w _ (h2 0 _ rfl), ?_⟩
  · have := g (j + 1) u hu
    rwa [show off + k * 12 + (j + 1) = off + k * 12 + 1 + j by omega] at this
  · obtain ⟨⟨a1, c1, e1, _⟩, ⟨a2, c2, e2, _⟩⟩ := ht
    rw [e1, e2]; exact ⟨rfl, rfl⟩

theorem EtAt.cells {w : World} {b o : Nat} {x : Ent} {v1 v2 : Value} (h : EtAt w b o x v1 v2) :
    w.cell? ⟨b, o, none⟩ = some (.int .i64 x.at_) ∧ w.cell? ⟨b, o + 1, none⟩ = some (.int .i64 x.r.kind) ∧ w.cell? ⟨b, o + 2, none⟩ = some (.int .i64 x.r.txn) ∧ w.cell? ⟨b, o + 3, none⟩ = some (.int .i64 x.r.page) ∧ w.cell? ⟨b, o + 4, none⟩ = some (.int .i64 x.r.off) ∧ w.cell? ⟨b, o + 5, none⟩ = some (.int .i64 x.r.prev) ∧
    w.cell? ⟨b, o + 6, none⟩ = some (.int .i64 x.r.next) ∧ w.cell? ⟨b, o + 7, none⟩ = some (.int .i64 x.r.beg) ∧ w.cell? ⟨b, o + 8, none⟩ = some (.string x.r.before) ∧ w.cell? ⟨b, o + 9, none⟩ = some (.string x.r.after) ∧ w.cell? ⟨b, o + 10, none⟩ = some v1 ∧ w.cell? ⟨b, o + 11, none⟩ = some v2 :=
  ⟨h.1, h.2 0 _ rfl, h.2 1 _ rfl, h.2 2 _ rfl, h.2 3 _ rfl, h.2 4 _ rfl, h.2 5 _ rfl, h.2 6 _ rfl, h.2 7 _ rfl, h.2 8 _ rfl, h.2 9 _ rfl, h.2 10 _ rfl⟩
theorem jRun_snoc (s : JS) (l : List Ent) (x : Ent) : jRun s (l ++ [x]) = (jEnt (jRun s l) x).2 := by simp [jRun]
theorem jFaults_snoc (s : JS) (l : List Ent) (x : Ent) : jFaults s (l ++ [x]) = jFaults s l ++ (if (jEnt (jRun s l) x).1 then [] else [x]) := by
  induction l generalizing s with
  | nil => cases h : (jEnt s x).1 <;> simp [jFaults, jRun, h]
  | cons y l ih =>
    simp only [List.cons_append, jFaults]
    have : jRun s (y :: l) = jRun (jEnt s y).2 l := rfl
    rw [this, ih]
    split <;> simp
theorem take_snoc' {α : Type} {l : List α} {k : Nat} (h : k < l.length) : l.take (k + 1) = l.take k ++ [l[k]] := List.take_succ_eq_append_getElem h
theorem jFaults_len (s : JS) (l : List Ent) : (jFaults s l).length ≤ l.length := by
  induction l generalizing s with
  | nil => simp [jFaults]
  | cons x l ih => simp only [jFaults]; split <;> simp only [List.length_cons] <;> have := ih (jEnt s x).2 <;> omega

def NewK (w : World) : Nat → Prop := fun i => w.heap.size ≤ i
def af0 : Value := .func (.func 25) #[] #[]
/-- While the faults are gathered. -/
structure FaI (w wr : World) (p ro rb : Nat) (E : List JE) (s : JS) (n : Nat) (v : Value) (O : List Ent) : Prop where
  at_ : JAt wr p ro rb E s af0 n
  own : OwnE (NewK w) wr w.heap.size v O
  chg : Chg NoB w wr
  ge : ∀ i, juFp p ro rb E i → w.heap.size ≤ i
  sep : ∀ i, OwnB v i → ¬ juFp p ro rb E i
theorem FaI.entry {w wr w2 : World} {p ro rb : Nat} {E E' : List JE} {s s' : JS} {n n' : Nat} {v : Value} {O : List Ent} (h : FaI w wr p ro rb E s n v O) (hI : OwnI wr w2 p ro rb E E' s' af0 n') : FaI w w2 p ro rb E' s' n' v O :=
  ⟨hI.at_, h.own.keep hI.chg (fun k hk => .inl (h.ge k hk)) (fun k hk => h.sep k hk), h.chg.trans hI.chg (fun i hi => .inr (h.ge i hi)), fun i hi => by
      rcases hI.fp i hi with h1 | h1
      · exact h.ge i h1
      · have := h.chg.size; omega, fun i hi hj => by
      rcases hI.fp i hj with h1 | h1
      · exact h.sep i hi h1
      · have := h.own.ge hi; omega⟩
theorem FaI.app {w wr w2 : World} {p ro rb : Nat} {E : List JE} {s : JS} {n : Nat} {v v' : Value} {O O' : List Ent} (h : FaI w wr p ro rb E s n v O) (ho : OwnE (NewK w) w2 w.heap.size v' O') (hc : Chg (OwnB v) wr w2) (hn : ∀ i, OwnB v' i → OwnB v i ∨ wr.heap.size ≤ i) : FaI w w2 p ro rb E s n v' O' :=
  ⟨h.at_.keep hc (fun k hk => h.sep k hk), ho, h.chg.trans hc (fun i hi => .inr (h.own.ge hi).1), h.ge, fun i hi hj => by
      rcases hn i hi with h1 | h1
      · exact h.sep i h1 hj
      · have := h.at_.lt i hj; omega⟩
theorem FaI.keep0 {w wr w2 : World} {p ro rb : Nat} {E : List JE} {s : JS} {n : Nat} {v : Value} {O : List Ent} (h : FaI w wr p ro rb E s n v O) (hc : Chg NoB wr w2) : FaI w w2 p ro rb E s n v O :=
  ⟨h.at_.keep0 hc, h.own.keep0 hc, h.chg.trans' hc, h.ge, h.sep⟩

/-- An entry of a list whose tables lie below what is new. -/
theorem entK_new {w wr : World} {x : Ent} {v1 v2 : Value} (ht : Tabs w x.r v1 v2) (hok : x.r.ok ∧ fits x.at_) (hc : Chg NoB w wr) {F : Nat → Prop} (hF : ∀ k, F k → w.heap.size ≤ k) : EntK F wr (x, v1, v2) :=
  ⟨ht.mono hc, hok.1, hok.2, fun k hk => ⟨fun h => by have := Rd.slLt (size := 3) (fun _ => rfl) (by decide) ht.1 h; have := hF k hk; omega, fun h => by have := Rd.slLt (size := 2) (fun _ => rfl) (by decide) ht.2 h; have := hF k hk; omega⟩⟩

set_option maxRecDepth 100000 in
theorem faults_calls (v : Value) (l : List Ent) (w : World) (hv : Ents w v l) (hl : l.length ≤ 1000) (hk : ∀ x ∈ l, x.r.okk) (O : List Ent) (hO : Hid (O = jFaults jNew l)) :
    Calls Try.prog 8 #[v] w fun e w' => ∃ vo, e = .returned vo ∧ Hid (OwnE (NewK w) w' w.heap.size vo O) ∧ Hid (Chg NoB w w') := by
  obtain ⟨a, c, rfl, h1, h2, h3⟩ := hv
  unfold maxLen at h2
  have H3 := hid h3
  have HKK := hid hk
  clear h3 hk
  go_enter Try.func8, Try.ntmps8
  go_wp2_with (go_at_call 16; refine (begin_calls w).mono ?_; rintro en w1 ⟨p, ro, rb, rfl, hJ1, hc1, g1, g2, g3⟩)
  have HI : Hid (FaI w w1 p ro rb [] jNew 0 (.slice none 0 0) []) := hid ⟨hJ1, OwnE.nil _ _ _, hc1, fun i hi => by
    rcases hi with rfl | rfl | rfl | ⟨e, he, _⟩
    · exact g1
    · exact g3
    · exact g2
    · simp at he, fun i hi => by simp [OwnB, Value.ownBlock] at hi⟩
  clear hJ1 hc1 g1 g2 g3
  go_loopw [2, 8] (fun vo i wr => ∃ (k : Nat) (E : List JE), k ≤ l.length ∧ i = .int .i64 k ∧ Hid (FaI w wr p ro rb E (jRun jNew (l.take k)) k vo (jFaults jNew (l.take k)))) (fun _ i _ => l.length - toN i)
  case atStart => exact ⟨0, [], by omega, rfl, by simpa [jRun, jFaults] using HI⟩
  case round =>
    obtain ⟨k, E, hkl, rfl, hI⟩ := hrel
    clear HI
    by_cases hlt : k < l.length
    · obtain ⟨x, b, off, v1, v2, hx, rfl, ht, hok, hE, hbl, hone⟩ := Ents.at H3.out hI.out.chg k hlt
      have hxk : x.r.okk := HKK.out x (by rw [← hx.out]; exact List.getElem_mem hlt)
      obtain ⟨sk, hsk⟩ := named (jRun jNew (l.take k))
      obtain ⟨Ok, hOk⟩ := named (jFaults jNew (l.take k))
      rw [← hsk.out, ← hOk.out] at hI
      obtain ⟨⟨ob, sb⟩, hob⟩ := named (jEnt sk x)
      have hrun : Hid (jRun jNew (l.take (k + 1)) = sb) := hid (by rw [take_snoc' hlt, jRun_snoc, hx.out, ← hsk.out, ← hob.out])
      have hflt : Hid (jFaults jNew (l.take (k + 1)) = Ok ++ (if ob then [] else [x])) := hid (by rw [take_snoc' hlt, jFaults_snoc, hx.out, ← hsk.out, ← hOk.out, ← hob.out])
      have hOl : Ok.length ≤ 1000 := by rw [hOk.out]; have := jFaults_len jNew (l.take k); simp at this; omega
      obtain ⟨ao, co, rfl⟩ := hI.out.own.form
      have hbE : ¬ juFp p ro rb E b := fun hj => by have := hI.out.ge b hj; omega
      have HT := hid ht
      have HE := hid hE
      clear ht hE
      cases ob
      · go_upto_region 6 with (go_at_call 17; refine (entry_calls p ro rb E sk af0 k b (off + k * 12) x v1 v2 wr hI.out.at_ HE.out hbE hxk hone (by omega) (fun _ => rfl) _ _ hob).mono ?_; rintro en w2 ⟨rfl, E', hI2⟩)
        have hF2 := hid (hI.out.entry hI2.out)
        obtain ⟨c0, q0, q1, q2, q3, q4, q5, q6, q7, q8, q9, q10⟩ := (HE.out.keep hI2.out.chg hbE).cells
        clear hI hI2
        have hEK : Hid (EntK (fun k => OwnB (.slice ao Ok.length co) k ∨ NewK w k) (w2.alloc (.cells (encE (x, v1, v2)).toArray 32)) (x, v1, v2)) := hid (entK_new HT.out hok.out (hF2.out.chg.alloc _) (fun k hk => by
          rcases hk with hk | hk
          · exact (hF2.out.own.ge hk).1
          · exact hk))
        have HOW := hid (hF2.out.own.keep0 ((Chg.refl NoB w2).alloc (.cells (encE (x, v1, v2)).toArray 32)))
        have hsz : w.heap.size ≤ (w2.alloc (.cells (encE (x, v1, v2)).toArray 32)).heap.size := by have := hF2.out.chg.size; simp; omega
        have HB := hid (blk_new w2 (.cells (encE (x, v1, v2)).toArray 32))
        have HSZ := hid hsz
        unfold encE Rec.cs at HB hEK HOW HSZ
        clear hsz
        go_wp2_with (at_builtin; refine step_appE slEnt rfl _ _ rfl HOW.out rfl w2.heap.size x v1 v2 rfl HB.out rfl hone hEK.out (by omega) HSZ.out ?_; intro v5 w5 ho5 hc5 hob5)
        obtain ⟨a5, n5, rfl⟩ := ho5.form
        have hF3 := hid ((hF2.out.keep0 ((Chg.refl NoB w2).alloc _)).app ho5 hc5 hob5)
        clear ho5 hc5 hob5 hF2 HB hEK HOW HSZ c0 q0 q1 q2 q3 q4 q5 q6 q7 q8 q9 q10
        go_wp2_with fail
        go_roundw
        case rel => exact ⟨k + 1, E', by omega, by go_num, by rw [hrun.out, hflt.out]; exact hF3⟩
        case measure => simp [toN]; omega
      · go_wp2_with (go_at_call 17; refine (entry_calls p ro rb E sk af0 k b (off + k * 12) x v1 v2 wr hI.out.at_ HE.out hbE hxk hone (by omega) (fun _ => rfl) _ _ hob).mono ?_; rintro en w2 ⟨rfl, E', hI2⟩)
        go_roundw
        case rel => exact ⟨k + 1, E', by omega, by go_num, by rw [hrun.out, hflt.out]; simpa using hid (hI.out.entry hI2.out)⟩
        case measure => simp [toN]; omega
    · obtain rfl : k = l.length := by omega
      have hO2 : Hid (jFaults jNew (l.take l.length) = O) := hid (by rw [hO.out, List.take_length])
      rw [hO2.out] at hI
      obtain ⟨ao, co, rfl⟩ := hI.out.own.form
      go_wp2_with fail
      go_ret
      exact ⟨_, rfl, hid hI.out.own, hid hI.out.chg⟩
end Go.Proofs.Ytobmaipjbepphaa
