import Derived.Test.YtghklbflbodajaaBb2
namespace Go.Proofs.Ytghklbflbodajaa
open Go.RowKit Go.ChangeMaps Go.MapKept
set_option linter.unusedVariables false
set_option linter.unusedSimpArgs false
set_option linter.unnecessarySimpa false

theorem exL (s : ByteArray) (a b : Nat) : (s.extract a b).data.toList = (s.data.toList.drop a).take (b - a) := by
  rw [ByteArray.data_extract, Array.toList_extract]
theorem szL (s : ByteArray) : s.data.toList.length = s.size := (Lib.size_eq s).symm
theorem extL {s t : ByteArray} (h : s.data.toList = t.data.toList) : s = t := ByteArray.ext (Array.toList_inj.1 h)
theorem bkT_list (s : ByteArray) (k : Nat) : (bkT s k).data.toList = (s.data.toList.drop (5 + k * 228)).take 228 := by
  unfold bkT
  rw [exL, exL, List.drop_zero, List.take_of_length_le (l := s.data.toList.drop (5 + k * 228)) (by rw [List.length_drop, szL]; omega)]
theorem pack_list {p : Pg} (h : p.right = true) : p.pack.1.data.toList = be4 p.at_.toNat ++ p.data.data.toList := by
  unfold Pg.pack
  rw [if_pos h]
theorem right_parts {p : Pg} (h : p.right = true) : 0 ≤ p.at_ ∧ p.at_ ≤ 2147483647 ∧ p.data.size = 220 := by
  simp [Pg.right] at h
  exact ⟨h.1, h.2.1, h.2.2⟩
theorem unpack_of_list {t : ByteArray} {p : Pg} (hp : p.right = true) (ht : t.data.toList = be4 p.at_.toNat ++ p.data.data.toList) : unpackPg t = (p, 0) := by
  obtain ⟨h1, h2, h3⟩ := right_parts hp
  have hz : t.size = 224 := by rw [← szL, ht, List.length_append, szL, h3]; rfl
  have hn : (numK t 4 : Int) = p.at_ := by
    unfold numK
    rw [ht, List.take_append_of_le_length (by simp [be4]), List.take_of_length_le (by simp [be4]), num4_be4 _ (by omega)]
    omega
  have hd : t.extract 4 t.size = p.data := by
    apply extL
    rw [exL, ht, List.drop_append_of_le_length (by simp [be4]), List.take_of_length_le]
    · simp [be4]
    · rw [List.length_append, szL, h3, hz]; simp [be4]
  unfold unpackPg
  rw [if_pos hz]
  dsimp only
  rw [hn, hd]
  have : (⟨p.at_, p.data⟩ : Pg) = p := rfl
  rw [this, if_pos hp]
theorem list_of_unpack {t : ByteArray} (h : (unpackPg t).2 = 0) : (unpackPg t).1.right = true ∧ be4 (unpackPg t).1.at_.toNat ++ (unpackPg t).1.data.data.toList = t.data.toList := by
  refine ⟨unpack_right t h, ?_⟩
  unfold unpackPg at h ⊢
  split at h
  · rename_i hz
    rw [if_pos hz]
    dsimp only at h ⊢
    split at h
    · rename_i hr
      rw [if_pos hr]
      dsimp only
      rw [exL, hz]
      have h4 : (t.data.toList.take 4).length = 4 := by rw [List.length_take, szL]; omega
      have hb : be4 (numK t 4) = t.data.toList.take 4 := be4_num4 h4
      rw [show ((numK t 4 : Nat) : Int).toNat = numK t 4 from by omega, hb]
      rw [List.take_of_length_le (l := t.data.toList.drop 4) (by rw [List.length_drop, szL]; omega)]
      exact List.take_append_drop 4 _
    · simp at h
  · simp at h
theorem chunks : ∀ (n : Nat) (l : List UInt8), l.length = n * 228 → (List.range n).flatMap (fun k => (l.drop (k * 228)).take 228) = l
  | 0, l, h => by have : l = [] := List.length_eq_zero_iff.1 (by omega); subst this; rfl
  | n + 1, l, h => by
    rw [List.range_succ_eq_map, List.flatMap_cons, List.flatMap_map]
    have ih := chunks n (l.drop 228) (by rw [List.length_drop]; omega)
    have e : (fun k => (l.drop (Nat.succ k * 228)).take 228) = fun k => ((l.drop 228).drop (k * 228)).take 228 := by
      funext k
      rw [List.drop_drop]
      congr 2
      rw [Nat.succ_mul]; omega
    show (l.drop (0 * 228)).take 228 ++ (List.range n).flatMap (fun k => (l.drop (Nat.succ k * 228)).take 228) = l
    rw [e, ih, Nat.zero_mul, List.drop_zero, List.take_append_drop]
theorem fm_congr {α β : Type} {f g : α → List β} : ∀ {l : List α}, (∀ x ∈ l, f x = g x) → l.flatMap f = l.flatMap g
  | [], _ => rfl
  | x :: l, h => by rw [List.flatMap_cons, List.flatMap_cons, h x (List.mem_cons_self ..), fm_congr fun y hy => h y (List.mem_cons_of_mem _ hy)]
theorem flat_at {L : List Tk} (h : ∀ x ∈ L, (tkB x).length = 228) : ∀ (k : Nat) (hk : k < L.length), ((L.flatMap tkB).drop (k * 228)).take 228 = tkB L[k] := by
  induction L with
  | nil => intro k hk; simp at hk
  | cons x L ih =>
    intro k hk
    have hx := h x (List.mem_cons_self ..)
    rw [List.flatMap_cons]
    cases k with
    | zero =>
      rw [Nat.zero_mul, List.drop_zero, List.take_append_of_le_length (by omega), List.take_of_length_le (by omega)]
      rfl
    | succ k =>
      have e : (k + 1) * 228 = (tkB x).length + k * 228 := by rw [hx]; omega
      rw [e, List.drop_length_add_append, ih (fun y hy => h y (List.mem_cons_of_mem _ hy)) k (by simpa using hk)]
      rfl
theorem flat_len {L : List Tk} (h : ∀ x ∈ L, (tkB x).length = 228) : (L.flatMap tkB).length = L.length * 228 := by
  induction L with
  | nil => rfl
  | cons x L ih =>
    have hx := h x (List.mem_cons_self ..)
    rw [List.flatMap_cons, List.length_append, hx, ih (fun y hy => h y (List.mem_cons_of_mem _ hy)), List.length_cons]
    omega
theorem bkHead_parts {s : ByteArray} (h : bkHead s = true) : 4 < s.size ∧ ((s.extract 0 4).toList == [66, 75, 80, 49]) = true ∧ 1 ≤ bkN s ∧ bkN s ≤ 8 ∧ s.size = 5 + bkN s * 228 := by
  simp only [bkHead, Bool.and_eq_true, decide_eq_true_eq] at h
  exact h
theorem bkRead_parts {s : ByteArray} {L : List Tk} (h : bkRead s = some L) : bkHead s = true ∧ (∀ k < bkN s, bkGood s k = true) ∧ L = (List.range (bkN s)).map (bkItem s) := by
  unfold bkRead at h
  split at h
  · rename_i h1
    rw [Bool.and_eq_true, List.all_eq_true] at h1
    exact ⟨h1.1, fun k hk => h1.2 k (List.mem_range.2 hk), (Option.some.inj h).symm⟩
  · cases h
theorem toList_data (s : ByteArray) : s.toList = s.data.toList := by rw [ByteArray.toList_eq]
theorem nat_int (n : Nat) : ((n : Nat) : Int).toNat = n := Int.toNat_natCast n
theorem item_at (s : ByteArray) (k : Nat) : (bkItem s k).at_.toNat = numK (bkT s k) 4 := by simp only [bkItem, Int.toNat_natCast]
theorem item_p (s : ByteArray) (k : Nat) : (bkItem s k).p = (unpackPg ((bkT s k).extract 4 (bkT s k).size)).1 := by simp only [bkItem]
theorem item_has (s : ByteArray) (k : Nat) : (bkItem s k).has = true := by simp only [bkItem]
theorem item_bytes {s : ByteArray} {k : Nat} (h5 : 5 + (k + 1) * 228 ≤ s.size) (h : bkGood s k = true) : (bkItem s k).has = true ∧ (bkItem s k).p.right = true ∧ tkB (bkItem s k) = (s.data.toList.drop (5 + k * 228)).take 228 := by
  unfold bkGood at h
  rw [Bool.and_eq_true, decide_eq_true_eq, decide_eq_true_eq] at h
  obtain ⟨h1, h2⟩ := h
  obtain ⟨hr, hl⟩ := list_of_unpack h1
  refine ⟨item_has s k, by rw [item_p]; exact hr, ?_⟩
  rw [← bkT_list]
  have htz : (bkT s k).data.toList.length = 228 := by rw [bkT_list, List.length_take, List.length_drop, szL]; omega
  unfold tkB
  rw [item_at, item_p, pack_list hr, hl, exL]
  have h4 : ((bkT s k).data.toList.take 4).length = 4 := by rw [List.length_take, htz]; rfl
  have hb : be4 (numK (bkT s k) 4) = (bkT s k).data.toList.take 4 := be4_num4 h4
  rw [hb]
  rw [List.take_of_length_le (l := (bkT s k).data.toList.drop 4) (by rw [List.length_drop, ← szL]; omega)]
  exact List.take_append_drop 4 _
theorem bytes_of_read {s : ByteArray} {L : List Tk} (h : bkRead s = some L) : bkWhole L = true ∧ bkBytes L = (s, 0) := by
  obtain ⟨hh, hg, rfl⟩ := bkRead_parts h
  obtain ⟨h4, hp, h1, h8, hz⟩ := bkHead_parts hh
  obtain ⟨n, hn⟩ : ∃ n, n = bkN s := ⟨_, rfl⟩
  have hn4 : (s[4]'h4).toNat = n := by rw [hn]; unfold bkN; rw [dif_pos h4]
  rw [← hn] at hg hz h1 h8 ⊢
  have hw : bkWhole ((List.range n).map (bkItem s)) = true := by
    unfold bkWhole
    rw [List.all_eq_true]
    intro x hx
    obtain ⟨k, hk, rfl⟩ := List.mem_map.1 hx
    exact item_has s k
  refine ⟨hw, ?_⟩
  unfold bkBytes
  rw [if_pos hw]
  congr 1
  apply extL
  show bkOut _ _ = _
  unfold bkOut
  rw [List.take_length, List.length_map, List.length_range, List.flatMap_map]
  have e : (List.range n).flatMap (fun k => tkB (bkItem s k)) = (List.range n).flatMap (fun k => ((s.data.toList.drop 5).drop (k * 228)).take 228) := by
    apply fm_congr
    intro k hk
    have hk' := List.mem_range.1 hk
    rw [(item_bytes (by omega) (hg k hk')).2.2, List.drop_drop]
  rw [e, chunks n _ (by rw [List.length_drop, szL]; omega)]
  have hp' : s.data.toList.take 4 = [66, 75, 80, 49] := by
    have := hp
    rw [toList_data, exL, List.drop_zero] at this
    exact eq_of_beq this
  have h5 : UInt8.ofNat n = s.data.toList[4]'(by rw [szL]; exact h4) := by
    rw [← hn4]
    simp
    rfl
  rw [h5, ← hp', List.append_assoc, List.singleton_append, List.getElem_cons_drop, List.take_append_drop]
theorem read_of_bytes {L : List Tk} (hw : bkWhole L = true) (hok : tkOk L) (h1 : 1 ≤ L.length) (h8 : L.length ≤ 8) : bkRead (bkBytes L).1 = some L := by
  have hall : ∀ x ∈ L, x.has = true ∧ x.p.right = true ∧ 0 ≤ x.at_ ∧ x.at_ ≤ 2147483647 ∧ (tkB x).length = 228 := fun x hx => by
    have hh : x.has = true := by
      unfold bkWhole at hw
      rw [List.all_eq_true] at hw
      exact hw x hx
    have h1 := (hok x hx).1 hh
    obtain ⟨g1, g2, g3⟩ := right_parts h1.1
    refine ⟨hh, h1.1, h1.2.1, h1.2.2, ?_⟩
    unfold tkB
    rw [pack_list h1.1, List.length_append, List.length_append, szL, g3]
    rfl
  have hlen := flat_len fun x hx => (hall x hx).2.2.2.2
  obtain ⟨s, hs⟩ : ∃ s, s = (bkBytes L).1 := ⟨_, rfl⟩
  rw [← hs]
  have hsl : s.data.toList = [66, 75, 80, 49] ++ [UInt8.ofNat L.length] ++ L.flatMap tkB := by
    rw [hs]
    unfold bkBytes
    rw [if_pos hw]
    show bkOut L L.length = _
    unfold bkOut
    rw [List.take_length]
  have hz : s.size = 5 + L.length * 228 := by rw [← szL, hsl, List.length_append, hlen]; rfl
  have h4 : 4 < s.size := by omega
  have hn : bkN s = L.length := by
    unfold bkN
    rw [dif_pos h4]
    have : (s[4]'h4) = s.data.toList[4]'(by rw [szL]; exact h4) := by simp; rfl
    rw [this]
    have e : s.data.toList[4]'(by rw [szL]; exact h4) = UInt8.ofNat L.length := by
      simp only [hsl]
      rfl
    rw [e]
    simp
    omega
  have hh : bkHead s = true := by
    simp only [bkHead, Bool.and_eq_true, decide_eq_true_eq]
    refine ⟨h4, ?_, by omega, by omega, by rw [hn]; exact hz⟩
    rw [toList_data, exL, hsl]
    rfl
  have hT : ∀ k (hk : k < L.length), (bkT s k).data.toList = tkB L[k] := fun k hk => by
    rw [bkT_list, hsl, ← List.drop_drop]
    have e : List.drop 5 ([66, 75, 80, 49] ++ [UInt8.ofNat L.length] ++ L.flatMap tkB) = L.flatMap tkB := rfl
    rw [e]
    exact flat_at (fun x hx => (hall x hx).2.2.2.2) k hk
  have hI : ∀ k (hk : k < L.length), bkGood s k = true ∧ bkItem s k = L[k] := fun k hk => by
    obtain ⟨a1, a2, a3, a4, a5⟩ := hall L[k] (List.getElem_mem _)
    have ht := hT k hk
    have htz : (bkT s k).size = 228 := by rw [← szL, ht, a5]
    obtain ⟨g1, g2, g3⟩ := right_parts a2
    have hnum : (numK (bkT s k) 4 : Int) = L[k].at_ := by
      unfold numK
      rw [ht]
      unfold tkB
      rw [List.take_append_of_le_length (by simp [be4]), List.take_of_length_le (by simp [be4]), num4_be4 _ (by omega)]
      omega
    have hu : unpackPg ((bkT s k).extract 4 (bkT s k).size) = (L[k].p, 0) := by
      apply unpack_of_list a2
      rw [exL, ht]
      unfold tkB
      rw [List.drop_append_of_le_length (by simp [be4]), pack_list a2, List.take_of_length_le]
      · simp [be4]
      · rw [List.length_append, List.length_append, szL, g3, htz]; simp [be4]
    constructor
    · unfold bkGood
      rw [hu]
      simp
      omega
    · unfold bkItem
      rw [hu, hnum]
      have : (⟨true, L[k].p, L[k].at_⟩ : Tk) = ⟨L[k].has, L[k].p, L[k].at_⟩ := by rw [a1]
      exact this
  unfold bkRead
  rw [hh, Bool.true_and, hn, if_pos]
  · congr 1
    apply List.ext_getElem
    · simp
    · intro i h1 h2
      simp only [List.getElem_map, List.getElem_range]
      exact (hI i h2).2
  · rw [List.all_eq_true]
    intro k hk
    exact (hI k (List.mem_range.1 hk)).1
end Go.Proofs.Ytghklbflbodajaa
