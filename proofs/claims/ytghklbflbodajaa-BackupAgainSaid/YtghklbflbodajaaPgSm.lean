import Derived.Test.YtghklbflbodajaaA3
import Derived.Laws.StructEq
namespace Go.Proofs.Ytghklbflbodajaa
open Go.RowKit Go.ChangeMaps Go.MapKept
set_option linter.unusedVariables false
set_option linter.unusedSimpArgs false
set_option linter.unnecessarySimpa false
set_option maxHeartbeats 8000000

theorem eqPg (d : Nat) (a c : Int) (s u : ByteArray) (w : World) : (Op.equalIn (d + 2) 40 (.agg #[.int .i64 a, .string s]) (.agg #[.int .i64 c, .string u])).run Try.prog w = .ok ((a == c) && (s.toList == u.toList)) w := by
  have hf : (Try.prog.fieldsOf 40).toList.map (fun f => (f.name, f.type, f.offset)) = [("At", 3, 0), ("Data", 9, 1)] := by kernel_rfl
  have hu : Try.prog.underlying 40 = some (.struct (Try.prog.fieldsOf 40)) := by kernel_rfl
  have p0 : ∀ (x : Int) (y : ByteArray) (w : World), (part 3 #[.int .i64 x, .string y] 0).run Try.prog w = .ok (.int .i64 x) w := fun x y w => by
    simp [part, isAgg, run_underlying Try.underlying3]
  have p1 : ∀ (x : Int) (y : ByteArray) (w : World), (part 9 #[.int .i64 x, .string y] 1).run Try.prog w = .ok (.string y) w := fun x y w => by
    simp [part, isAgg, run_underlying Try.underlying9]
  have e0 : ∀ (x y : Int) (w : World), (Op.equalIn (d + 1) 3 (.int .i64 x) (.int .i64 y)).run Try.prog w = .ok (x == y) w := fun x y w => run_equalIn_int w d 3 .i64 .i64 _ _ Try.underlying3
  have e1 : ∀ (x y : ByteArray) (w : World), (Op.equalIn (d + 1) 9 (.string x) (.string y)).run Try.prog w = .ok (x.toList == y.toList) w := fun x y w => run_equalIn_string w d 9 _ _ Try.underlying9
  rw [run_equalIn_struct w (d + 1) _ _ _ hu (by kernel_rfl)]
  generalize (Try.prog.fieldsOf 40).toList = fs at hf
  have hlen : fs.length = 2 := by have := congrArg List.length hf; simpa using this
  match fs, hlen with
  | [f0, f1], _ =>
    simp only [List.map_cons, List.map_nil, List.cons.injEq, Prod.mk.injEq, and_true] at hf
    obtain ⟨⟨n0, t0, o0⟩, ⟨n1, t1, o1⟩⟩ := hf
    cases h1 : a == c <;> cases h2 : s.toList == u.toList <;> simp [Op.eqFields, n0, t0, o0, n1, t1, o1, p0, p1, e0, e1, h1, h2, Result.andThen]
theorem Rd.pg_at {w : World} {a : Option Addr} {l : List Pg} (h : ∀ i x, l[i]? = some x → ∃ b off, a = some ⟨b, off, none⟩ ∧ ∀ j u, (encP x)[j]? = some u → w.cell? ⟨b, off + i * 2 + j, none⟩ = some u) (k : Nat) (hk : k < l.length) :
    ∃ b off, a = some ⟨b, off, none⟩ ∧ w.cell? ⟨b, off + k * 2, none⟩ = some (.int .i64 l[k].at_) ∧ w.cell? ⟨b, off + k * 2 + 1, none⟩ = some (.string l[k].data) := by
  obtain ⟨b, off, ha, h2⟩ := h k _ (List.getElem?_eq_getElem hk)
  exact ⟨b, off, ha, h2 0 _ rfl, h2 1 _ rfl⟩
theorem samePg_at {a b : List Pg} {k : Nat} (ha : k < a.length) (hb : k < b.length) (h : a[k] ≠ b[k]) : a ≠ b := fun e => by subst e; exact h rfl
set_option maxRecDepth 100000 in
theorem samePg_calls (va vb : Value) (a b : List Pg) (w : World) (ha : Rd w 2 encP va a) (hb : Rd w 2 encP vb b) (r : Bool) (hr : Hid (r = true ↔ a = b)) :
    Calls Try.prog 21 #[va, vb] w fun e w' => e = .returned (.bool r) ∧ ∃ n, w' = w.drewN n := by
  obtain ⟨aa, ca, rfl, ha1, ha2, ha3⟩ := ha
  obtain ⟨ab, cb, rfl, hb1, hb2, hb3⟩ := hb
  unfold maxLen at ha2 hb2
  by_cases hl : a.length = b.length
  · have hl2 : (a.length == b.length) = true := by simpa using hl
    have HL := hid hl
    clear hl
    go_enter Try.func21, Try.ntmps21
    go_wp2
    go_loopw [5] (fun i wr => ∃ k : Nat, k ≤ a.length ∧ i = .int .i64 k ∧ Hid (∀ j (h1 : j < k) (h2 : j < a.length) (h3 : j < b.length), a[j] = b[j]) ∧ ∃ n, wr = w.drewN n) (fun i _ => a.length - (intOf i).toNat)
    case atStart => exact ⟨0, by omega, rfl, hid (fun j h => by omega), 0, rfl⟩
    case round =>
      obtain ⟨k, hk, rfl, HE, n, rfl⟩ := hrel
      by_cases hlt : k < a.length
      · have hlb : k < b.length := by rw [← HL.out]; exact hlt
        obtain ⟨ba, oa, rfl, c1, c2⟩ := Rd.pg_at ha3 k hlt
        obtain ⟨bb, ob, rfl, d1, d2⟩ := Rd.pg_at hb3 k hlb
        have HA := hid ha3
        have HB := hid hb3
        clear ha3 hb3
        obtain ⟨x, hx⟩ := named a[k]
        obtain ⟨y, hy⟩ := named b[k]
        rw [← hx.out] at c1 c2
        rw [← hy.out] at d1 d2
        by_cases hxy : x = y
        · have hB : ((x.at_ == y.at_) && (x.data.toList == y.data.toList)) = true := by rw [hxy]; simp
          have HE2 : ∀ w, (Op.equalIn 10000 40 (.agg #[.int .i64 x.at_, .string x.data]) (.agg #[.int .i64 y.at_, .string y.data])).run Try.prog w = .ok true w := fun w => by rw [eqPg 9998, hB]
          have HXY := hid hxy
          clear hxy hB
          go_wp2
          go_quiet (fail)
          go_wp2
          go_roundw
          case rel =>
            refine ⟨k + 1, by omega, by go_num, hid (fun j h1 h2 h3 => ?_), _, rfl⟩
            by_cases hjk : j < k
            · exact HE.out j hjk h2 h3
            · obtain rfl : j = k := by omega
              rw [← hx.out, ← hy.out]
              exact HXY.out
          case measure => simp [intOf] <;> omega
        · have hB : ((x.at_ == y.at_) && (x.data.toList == y.data.toList)) = false := by
            rw [Bool.eq_false_iff]
            intro h
            simp only [Bool.and_eq_true, beq_iff_eq] at h
            apply hxy
            have h2 : x.data = y.data := by
              have h3 := h.2
              rw [ByteArray.toList_eq, ByteArray.toList_eq] at h3
              exact ByteArray.ext (Array.toList_inj.1 h3)
            cases x; cases y; simp_all
          have HE2 : ∀ w, (Op.equalIn 10000 40 (.agg #[.int .i64 x.at_, .string x.data]) (.agg #[.int .i64 y.at_, .string y.data])).run Try.prog w = .ok false w := fun w => by rw [eqPg 9998, hB]
          have HXY := hid hxy
          clear hxy hB
          go_wp2
          go_quiet (fail)
          go_wp2
          go_ret
          exact ⟨ret_bool (by rw [eq_comm, Bool.eq_false_iff]; intro h; exact samePg_at hlt hlb (by rw [← hx.out, ← hy.out]; exact HXY.out) (hr.out.1 h)), _, World.drewN_drewN _ _ _⟩
      · obtain rfl : k = a.length := by omega
        go_wp2
        go_ret
        exact ⟨ret_bool (by rw [Bool.eq_iff_iff]; simp only [true_iff]; exact hr.out.2 (List.ext_getElem HL.out fun j h1 h2 => HE.out j h1 h1 h2)), _, rfl⟩
  · have hl2 : (a.length == b.length) = false := by simpa using hl
    have HL := hid hl
    clear hl
    go_enter Try.func21, Try.ntmps21
    go_wp2
    go_ret
    exact ⟨ret_bool (by rw [eq_comm, Bool.eq_false_iff]; intro h; exact HL.out (congrArg List.length (hr.out.1 h))), 0, rfl⟩
end Go.Proofs.Ytghklbflbodajaa
