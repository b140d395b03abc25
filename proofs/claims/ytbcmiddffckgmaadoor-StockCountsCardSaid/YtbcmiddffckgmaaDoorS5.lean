/- Texts: letters, by Trim at the letters from a to z; the reference's names. -/
import Derived.Test.YtbcmiddffckgmaaDoorS2
import Derived.Laws.Strings
set_option linter.unusedVariables false
set_option linter.unusedSimpArgs false
set_option linter.unnecessarySimpa false
namespace Go.Proofs.YtbcmiddffckgmaaDoor.Am
open Go
/-- The byte at a place. -/
def bv (s : ByteArray) (i : Nat) : Nat := ((s[i]?).map fun b => b.toNat).getD 0
theorem bv_get {s : ByteArray} {i : Nat} (h : i < s.size) : ((s[i]?).map fun b => PV.int .u8 (b.toNat : Int)) = some (.int .u8 (bv s i)) := by
  unfold bv; rw [getElem?_pos s i h]; rfl
theorem bv_range (s : ByteArray) (i : Nat) : bv s i < 256 := by
  unfold bv
  cases s[i]? with
  | none => simp
  | some b => have := b.toNat_lt; simp only [Option.map_some, Option.getD_some]; omega
theorem index_bv {s : ByteArray} {i : Nat} {k} (h : i < s.size) : indexP PP 9 (.str s) (.int k (i : Int)) = some (.int .u8 (bv s i)) := by
  rw [xs_9, if_pos (by omega), Int.toNat_natCast, bv_get h]
theorem bv_extract {s : ByteArray} {a b i : Nat} (h : i < b - a) (hb : b ≤ s.size) : bv (s.extract a b) i = bv s (a + i) := by
  have h1 : (s.extract a b).size = b - a := by rw [ByteArray.size_extract, Nat.min_eq_left hb]
  unfold bv
  rw [getElem?_pos (s.extract a b) i (by omega), getElem?_pos s (a + i) (by omega), ByteArray.getElem_extract]
def low (n : Nat) : Bool := decide (97 ≤ n ∧ n < 97 + 26)
/-- Are all letters from a to z? -/
def allLow (s : ByteArray) : Bool := (List.range s.size).all fun i => low (bv s i)
theorem allLow_iff {s : ByteArray} : allLow s = true ↔ ∀ i, i < s.size → low (bv s i) = true := by
  unfold allLow; rw [List.all_eq_true]; simp [List.mem_range]
theorem allLow_false {s : ByteArray} {i : Nat} (h : i < s.size) (hl : low (bv s i) = false) : allLow s = false := by
  cases ha : allLow s with
  | false => rfl
  | true => rw [allLow_iff.1 ha i h] at hl; cases hl
theorem str_eq (s t : ByteArray) : (s.toList == t.toList) = decide (s = t) := by
  rw [Bool.eq_iff_iff, beq_iff_eq, decide_eq_true_eq, ByteArray.toList_eq, ByteArray.toList_eq]
  constructor
  · intro h
    obtain ⟨⟨x⟩⟩ := s
    obtain ⟨⟨y⟩⟩ := t
    simp at h
    rw [h]
  · rintro rfl; rfl
theorem empty_iff (s : ByteArray) : s = ⟨#[]⟩ ↔ s.size = 0 := by
  constructor
  · rintro rfl; rfl
  · intro h; exact ByteArray.ext_getElem (by rw [h]; rfl) (fun i hi => by omega)
theorem str_empty (s : ByteArray) : (s.toList == (⟨#[]⟩ : ByteArray).toList) = decide (s.size = 0) := by
  rw [str_eq, decide_eq_decide, empty_iff]

/-! ### the set of letters -/
def azP (i : Nat) : List PV := (List.range 256).map fun j => .bool (decide (97 ≤ j ∧ j < 97 + i))
theorem azP_len (i : Nat) : (azP i).length = 256 := by simp [azP]
theorem azP_get {i j : Nat} (h : j < 256) : (azP i)[j]? = some (.bool (decide (97 ≤ j ∧ j < 97 + i))) := by
  unfold azP; rw [List.getElem?_map, List.getElem?_range h]; rfl
theorem azP_set {i : Nat} (h : i < 26) : (azP i).take (97 + i) ++ PV.bool true :: (azP i).drop (97 + i + 1) = azP (i + 1) := by
  rw [← List.singleton_append]
  apply List.ext_getElem?
  intro j
  rcases Nat.lt_or_ge j 256 with hj | hj
  · rw [azP_get hj]
    rcases Nat.lt_trichotomy j (97 + i) with h1 | h1 | h1
    · rw [List.getElem?_append_left (by rw [List.length_take, azP_len]; omega), List.getElem?_take_of_lt h1, azP_get hj]
      exact congrArg some (congrArg PV.bool (decide_eq_decide.2 (by omega)))
    · rw [List.getElem?_append_right (by rw [List.length_take, azP_len]; omega), List.length_take, azP_len, h1, Nat.min_eq_left (by omega), Nat.sub_self]
      simp
    · rw [List.getElem?_append_right (by rw [List.length_take, azP_len]; omega), List.length_take, azP_len, Nat.min_eq_left (by omega)]
      rw [List.getElem?_append_right (by simp; omega), List.getElem?_drop, List.length_singleton]
      rw [show 97 + i + 1 + (j - (97 + i) - 1) = j by omega, azP_get hj]
      exact congrArg some (congrArg PV.bool (decide_eq_decide.2 (by omega)))
  · rw [List.getElem?_eq_none (by simp [azP_len]; omega), List.getElem?_eq_none (by rw [azP_len]; omega)]
theorem azP_drop (i : Nat) : (azP i).drop 256 = [] := List.drop_eq_nil_of_le (by rw [azP_len]; omega)
theorem azP_take (i : Nat) : (azP i).take 256 = azP i := List.take_of_length_le (by rw [azP_len]; omega)
theorem tzr_125' : tzero PP 125 = some (.agg (azP 0)) := by kernel_rfl
theorem ia_125 {d i u hi k} {n : Nat} (h : n < 256 ∧ 256 ≤ hi) : indexAddrP PP 125 (.ref d i u 0 hi) (.int k (n : Int)) = some (.ref d i u n (n + 1)) := by
  have hu : PP.underlying 125 = some (.array 256 4) := by kernel_rfl
  have h4 : tsz PP 4 = some 1 := by kernel_rfl
  unfold indexAddrP
  rw [idxP_int, if_pos (by omega), Int.toNat_natCast, Option.bind_some, hu]
  simp only [h4]
  rw [if_pos (by omega)]
  simp
def az : ByteArray := ⟨#[97, 98, 99, 100, 101, 102, 103, 104, 105, 106, 107, 108, 109, 110, 111, 112, 113, 114, 115, 116, 117, 118, 119, 120, 121, 122]⟩
theorem az_bv : ∀ i, i < 26 → bv az i = 97 + i := by decide
def I77 (H : Heap) (i : Nat) (st : St) : Prop :=
  st = ⟨[.str az, gv st 1, .ref H.length 0 0 0 256, .bool false, .int .i64 i, gv st 5, gv st 6, gv st 7, gv st 8, gv st 9, gv st 10, gv st 11, gv st 12, gv st 13, gv st 14, gv st 15, gv st 16, gv st 17, gv st 18, gv st 19, gv st 20], [⟨azP i, 0, 0⟩] :: H, []⟩
set_option maxRecDepth 100000 in
theorem set77 : Pure C 77 [.str az] (.tup [.agg (azP 26), .bool true]) := by
  intro H
  refine WC_own (fn := Tryd.f77) Tryd.func77 rfl rfl rfl (Or.inl rfl) ?_; simp only [Tryd.f77, List.replicate, List.length_cons, List.length_nil, Nat.reduceSub, Nat.reduceAdd, List.cons_append, List.nil_append]
  simp -dsimp -implicitDefEqProofs only [go_sem, C_P, C_deep, reduceCtorEq, Nat.reduceAdd, Nat.reduceLeDiff, Nat.reduceLT, Nat.reduceEqDiff, Nat.reduceMul, Nat.reduceSub, Nat.reducePow, Int.reduceToNat, Int.reduceLE, Int.reduceLT, Int.reduceEq, tzr_125', azP_len]
  refine WL_for 26 (I77 H) rfl ?_ ?_
  · rintro i st hi hst
    rw [I77] at hst
    rw [hst]
    generalize gv st = x
    have hd : decide ((i : Int) < 26) = true := by simp; omega
    have hz : ((az.size : Nat) : Int) = 26 := rfl
    have hge : decide (((97 + i : Nat) : Int) ≥ 128) = false := by simp; omega
    simp -dsimp -implicitDefEqProofs only [go_sem, C_P, C_deep, reduceCtorEq, Nat.reduceAdd, Nat.reduceLeDiff, Nat.reduceLT, Nat.reduceEqDiff, Nat.reduceMul, Nat.reduceSub, Nat.reducePow, Int.reduceToNat, Int.reduceLE, Int.reduceLT, Int.reduceEq, hz, hd, index_bv (s := az) (show i < az.size from hi), az_bv i hi, hge]
    simp -dsimp -implicitDefEqProofs only [go_sem, C_P, C_deep, reduceCtorEq, Nat.reduceAdd, Nat.reduceLeDiff, Nat.reduceLT, Nat.reduceEqDiff, Nat.reduceMul, Nat.reduceSub, Nat.reducePow, Int.reduceToNat, Int.reduceLE, Int.reduceLT, Int.reduceEq, ia_125 (k := .u8) (hi := 256) (show 97 + i < 256 ∧ 256 ≤ 256 by omega), azP_len, azP_set hi, show 97 + i + 1 ≤ 256 by omega, wrap_succ (show i < 9223372036854775807 by omega)]
    exact rfl
  · rintro st hst
    rw [I77] at hst
    rw [hst]
    generalize gv st = x
    have hz : ((az.size : Nat) : Int) = 26 := rfl
    have hd : decide (((26 : Nat) : Int) < 26) = false := rfl
    have hm : mapO (reify ([⟨azP 26, 0, 0⟩] :: H) H.length 4) (azP 26) = some (azP 26) := mapO_some _ fun c hc => reify_scal (by
      unfold azP at hc; obtain ⟨n, _, rfl⟩ := List.mem_map.1 hc; rfl)
    simp -dsimp -implicitDefEqProofs only [go_sem, C_P, C_deep, reduceCtorEq, Nat.reduceAdd, Nat.reduceLeDiff, Nat.reduceLT, Nat.reduceEqDiff, Nat.reduceMul, Nat.reduceSub, Nat.reducePow, Int.reduceToNat, Int.reduceLE, Int.reduceLT, Int.reduceEq, hz, hd, azP_len, azP_take, azP_drop, hm]

/-! ### the set asked; the ends cut -/
theorem WCh_of {C : Cfg} {f args H Q} (h : WC C f args H Q) {K t} (hK : ∀ v H' d, Q v H' d → K v H' d) : WCh C f args H K t := WC_mono h hK
set_option maxRecDepth 100000 in
theorem con86 {d i u ver lo n : Nat} {H : Heap} (ho : getO H d i = some ⟨azP 26, ver, lo⟩) (hu : lo ≤ u ∧ u ≤ ver) (hn : n < 256) {K t} : WCh C 86 [.ref d i u 0 256, .int .u8 (n : Int)] H K t = K (.bool (low n)) H [] := by
  suffices h : WC C 86 [.ref d i u 0 256, .int .u8 (n : Int)] H fun v H' dd => v = .bool (low n) ∧ H' = H ∧ dd = [] by
    obtain ⟨k, v, H', d, h, rfl, rfl, rfl⟩ := h; exact WCh_det h
  have hup : getO ([] :: H) d i = some ⟨azP 26, ver, lo⟩ := getO_up ho []
  refine WC_own (fn := Tryd.f86) Tryd.func86 rfl rfl rfl (Or.inl rfl) ?_; simp only [Tryd.f86, List.replicate, List.length_cons, List.length_nil, Nat.reduceSub, Nat.reduceAdd, List.cons_append, List.nil_append]
  simp -dsimp -implicitDefEqProofs only [go_sem, C_P, C_deep, reduceCtorEq, Nat.reduceAdd, Nat.reduceLeDiff, Nat.reduceLT, Nat.reduceEqDiff, Nat.reduceMul, Nat.reduceSub, Nat.reducePow, Int.reduceToNat, Int.reduceLE, Int.reduceLT, Int.reduceEq, ia_125 (k := .u8) (hi := 256) (show n < 256 ∧ 256 ≤ 256 by omega), hup, hu.1, hu.2, azP_len, azP_get hn, show n + 1 ≤ 256 by omega, low]
theorem WS_sliceS {C : Cfg} {ts H t x lo hi K} : WS C ts H (.slice t x lo hi none) K = WV ((evalO ts x).bind fun a =>
      (optO (evalO ts) lo).bind fun lo => (optO (evalO ts) hi).bind fun hi => sliceP C.P H t a lo hi none) (fun v => K v H []) ⟨⟩ := WS_slice (by simp)
theorem slice_str {H} {s : ByteArray} {lo hi : Option PV} : sliceP PP H 9 (.str s) lo hi none = (bnd hi s.size).bind fun h => (bnd lo 0).bind fun l => if l ≤ h ∧ h ≤ s.size then some (.str (s.extract l h)) else none := by
  have hu : PP.underlying 9 = some .string := by kernel_rfl
  unfold sliceP
  rw [hu]; rfl
theorem bndP_none {n} : bnd none n = some n := rfl
theorem bndP_nat {k} {n m : Nat} : bnd (some (.int k (n : Int))) m = some n := by simp [bnd, idx]
def I79 (s : ByteArray) (r : PV) (H : Heap) (k : Nat) (st : St) : Prop :=
  k ≤ s.size ∧ (∀ i, k ≤ i → i < s.size → low (bv s i) = true) ∧
    st = ⟨[.str (s.extract 0 k), r, gv st 2, gv st 3, .str ⟨#[]⟩, gv st 5, gv st 6, gv st 7, gv st 8, gv st 9, gv st 10, gv st 11, gv st 12, gv st 13, gv st 14, gv st 15, gv st 16, gv st 17, gv st 18, gv st 19, gv st 20, gv st 21], [] :: H, []⟩
set_option maxRecDepth 100000 in
theorem right79 {d i u ver lo H} (s : ByteArray) (ho : getO H d i = some ⟨azP 26, ver, lo⟩) (hu : lo ≤ u ∧ u ≤ ver) (hmx : s.size ≤ maxL) : WC C 79 [.str s, .ref d i u 0 256] H fun v H' dd =>
    ∃ k, k ≤ s.size ∧ (∀ i, k ≤ i → i < s.size → low (bv s i) = true) ∧ (k = 0 ∨ low (bv s (k - 1)) = false) ∧ v = .str (s.extract 0 k) ∧ H' = H ∧ dd = [] := by
  have hup : getO ([] :: H) d i = some ⟨azP 26, ver, lo⟩ := getO_up ho []
  refine WC_own (fn := Tryd.f79) Tryd.func79 rfl rfl rfl (Or.inl rfl) ?_; simp only [Tryd.f79, List.replicate, List.length_cons, List.length_nil, Nat.reduceSub, Nat.reduceAdd, List.cons_append, List.nil_append]
  simp -dsimp -implicitDefEqProofs only [go_sem, C_P, C_deep, reduceCtorEq, Nat.reduceAdd, Nat.reduceLeDiff, Nat.reduceLT, Nat.reduceEqDiff, Nat.reduceMul, Nat.reduceSub, Nat.reducePow, Int.reduceToNat, Int.reduceLE, Int.reduceLT, Int.reduceEq]
  refine WL_inv (I79 s (.ref d i u 0 256) H) id s.size ⟨Nat.le_refl _, fun i h1 h2 => by omega, by rw [ByteArray.extract_zero_size]; rfl⟩ ?_
  rintro k st ⟨hk, hl, hst⟩
  rw [hst]
  generalize gv st = x
  have hsz : (s.extract 0 k).size = k := by rw [ByteArray.size_extract, Nat.min_eq_left hk, Nat.sub_zero]
  simp -dsimp -implicitDefEqProofs only [go_sem, C_P, C_deep, reduceCtorEq, Nat.reduceAdd, Nat.reduceLeDiff, Nat.reduceLT, Nat.reduceEqDiff, Nat.reduceMul, Nat.reduceSub, Nat.reducePow, Int.reduceToNat, Int.reduceLE, Int.reduceLT, Int.reduceEq, lstr_9, hsz]
  refine Br_intro (fun h => ?_) (fun h => ?_)
  · have h0 : 0 < k := by have := of_decide_eq_true h; omega
    have hsub : IntKind.i64.wrap ((k : Int) - 1) = ((k - 1 : Nat) : Int) := by unfold maxL at hmx; rw [wrap64 (by omega)]; omega
    have hbv : bv (s.extract 0 k) (k - 1) = bv s (k - 1) := by rw [bv_extract (by omega) hk, Nat.zero_add]
    simp -dsimp -implicitDefEqProofs only [go_sem, C_P, C_deep, reduceCtorEq, Nat.reduceAdd, Nat.reduceLeDiff, Nat.reduceLT, Nat.reduceEqDiff, Nat.reduceMul, Nat.reduceSub, Nat.reducePow, Int.reduceToNat, Int.reduceLE, Int.reduceLT, Int.reduceEq, lstr_9, hsz, hsub, index_bv (s := s.extract 0 k) (show k - 1 < (s.extract 0 k).size by omega), hbv, con86 hup hu (bv_range s (k - 1))]
    refine Br_intro (fun h => ?_) (fun h => ?_)
    · simp -dsimp -implicitDefEqProofs only [go_sem, C_P, C_deep, reduceCtorEq, Nat.reduceAdd, Nat.reduceLeDiff, Nat.reduceLT, Nat.reduceEqDiff, Nat.reduceMul, Nat.reduceSub, Nat.reducePow, Int.reduceToNat, Int.reduceLE, Int.reduceLT, Int.reduceEq]
      exact ⟨k, hk, hl, .inr (by simpa using h), rfl⟩
    · simp -dsimp -implicitDefEqProofs only [go_sem, C_P, C_deep, reduceCtorEq, Nat.reduceAdd, Nat.reduceLeDiff, Nat.reduceLT, Nat.reduceEqDiff, Nat.reduceMul, Nat.reduceSub, Nat.reducePow, Int.reduceToNat, Int.reduceLE, Int.reduceLT, Int.reduceEq, lstr_9, hsz, hsub, ↓WS_sliceS, slice_str, bndP_none, bndP_nat, show k - 1 ≤ k by omega]
      refine ⟨k - 1, by simp only [id]; omega, by omega, fun i h1 h2 => ?_, ?_⟩
      · rcases Nat.lt_or_ge i k with h3 | h3
        · have : i = k - 1 := by omega
          rw [this]; simpa using h
        · exact hl i h3 h2
      · rw [ByteArray.extract_extract, Nat.zero_add, Nat.zero_add, Nat.min_eq_left (by omega)]; exact rfl
  · have h0 : k = 0 := by have := of_decide_eq_false h; omega
    simp -dsimp -implicitDefEqProofs only [go_sem, C_P, C_deep, reduceCtorEq, Nat.reduceAdd, Nat.reduceLeDiff, Nat.reduceLT, Nat.reduceEqDiff, Nat.reduceMul, Nat.reduceSub, Nat.reducePow, Int.reduceToNat, Int.reduceLE, Int.reduceLT, Int.reduceEq]
    exact ⟨k, hk, hl, .inl h0, rfl⟩
def I78 (s : ByteArray) (r : PV) (H : Heap) (k : Nat) (st : St) : Prop :=
  k ≤ s.size ∧ (∀ i, i < k → low (bv s i) = true) ∧
    st = ⟨[.str (s.extract k s.size), r, gv st 2, gv st 3, .str ⟨#[]⟩, gv st 5, gv st 6, gv st 7, gv st 8, gv st 9, gv st 10, gv st 11, gv st 12, gv st 13, gv st 14, gv st 15], [] :: H, []⟩
theorem bndP_lit {k} {m : Nat} : bnd (some (.int k 1)) m = some 1 := rfl
set_option maxRecDepth 100000 in
theorem left78 {d i u ver lo H} (s : ByteArray) (ho : getO H d i = some ⟨azP 26, ver, lo⟩) (hu : lo ≤ u ∧ u ≤ ver) : WC C 78 [.str s, .ref d i u 0 256] H fun v H' dd =>
    ∃ k, k ≤ s.size ∧ (∀ i, i < k → low (bv s i) = true) ∧ (k = s.size ∨ low (bv s k) = false) ∧ v = .str (s.extract k s.size) ∧ H' = H ∧ dd = [] := by
  have hup : getO ([] :: H) d i = some ⟨azP 26, ver, lo⟩ := getO_up ho []
  refine WC_own (fn := Tryd.f78) Tryd.func78 rfl rfl rfl (Or.inl rfl) ?_; simp only [Tryd.f78, List.replicate, List.length_cons, List.length_nil, Nat.reduceSub, Nat.reduceAdd, List.cons_append, List.nil_append]
  simp -dsimp -implicitDefEqProofs only [go_sem, C_P, C_deep, reduceCtorEq, Nat.reduceAdd, Nat.reduceLeDiff, Nat.reduceLT, Nat.reduceEqDiff, Nat.reduceMul, Nat.reduceSub, Nat.reducePow, Int.reduceToNat, Int.reduceLE, Int.reduceLT, Int.reduceEq]
  refine WL_inv (I78 s (.ref d i u 0 256) H) (fun k => s.size - k) 0 ⟨Nat.zero_le _, fun i h1 => by omega, by rw [ByteArray.extract_zero_size]; rfl⟩ ?_
  rintro k st ⟨hk, hl, hst⟩
  rw [hst]
  generalize gv st = x
  have hsz : (s.extract k s.size).size = s.size - k := by rw [ByteArray.size_extract, Nat.min_self]
  simp -dsimp -implicitDefEqProofs only [go_sem, C_P, C_deep, reduceCtorEq, Nat.reduceAdd, Nat.reduceLeDiff, Nat.reduceLT, Nat.reduceEqDiff, Nat.reduceMul, Nat.reduceSub, Nat.reducePow, Int.reduceToNat, Int.reduceLE, Int.reduceLT, Int.reduceEq, lstr_9, hsz]
  refine Br_intro (fun h => ?_) (fun h => ?_)
  · have h0 : k < s.size := by have := of_decide_eq_true h; omega
    have hbv : bv (s.extract k s.size) 0 = bv s k := by rw [bv_extract (by omega) (Nat.le_refl _), Nat.add_zero]
    have hix : ∀ kk, indexP PP 9 (.str (s.extract k s.size)) (.int kk 0) = some (.int .u8 (bv s k)) := fun kk => by
      rw [← hbv]; exact index_bv (i := 0) (by omega)
    simp -dsimp -implicitDefEqProofs only [go_sem, C_P, C_deep, reduceCtorEq, Nat.reduceAdd, Nat.reduceLeDiff, Nat.reduceLT, Nat.reduceEqDiff, Nat.reduceMul, Nat.reduceSub, Nat.reducePow, Int.reduceToNat, Int.reduceLE, Int.reduceLT, Int.reduceEq, hix, con86 hup hu (bv_range s k)]
    refine Br_intro (fun h => ?_) (fun h => ?_)
    · simp -dsimp -implicitDefEqProofs only [go_sem, C_P, C_deep, reduceCtorEq, Nat.reduceAdd, Nat.reduceLeDiff, Nat.reduceLT, Nat.reduceEqDiff, Nat.reduceMul, Nat.reduceSub, Nat.reducePow, Int.reduceToNat, Int.reduceLE, Int.reduceLT, Int.reduceEq]
      exact ⟨k, hk, hl, .inr (by simpa using h), rfl⟩
    · simp -dsimp -implicitDefEqProofs only [go_sem, C_P, C_deep, reduceCtorEq, Nat.reduceAdd, Nat.reduceLeDiff, Nat.reduceLT, Nat.reduceEqDiff, Nat.reduceMul, Nat.reduceSub, Nat.reducePow, Int.reduceToNat, Int.reduceLE, Int.reduceLT, Int.reduceEq, ↓WS_sliceS, slice_str, bndP_none, bndP_lit, hsz, show 1 ≤ s.size - k by omega]
      refine ⟨k + 1, by omega, by omega, fun i h1 => ?_, ?_⟩
      · rcases Nat.lt_or_ge i k with h3 | h3
        · exact hl i h3
        · have : i = k := by omega
          rw [this]; simpa using h
      · rw [ByteArray.extract_extract, Nat.min_eq_right (by omega)]; exact rfl
  · have h0 : k = s.size := by have := of_decide_eq_false h; omega
    simp -dsimp -implicitDefEqProofs only [go_sem, C_P, C_deep, reduceCtorEq, Nat.reduceAdd, Nat.reduceLeDiff, Nat.reduceLT, Nat.reduceEqDiff, Nat.reduceMul, Nat.reduceSub, Nat.reducePow, Int.reduceToNat, Int.reduceLE, Int.reduceLT, Int.reduceEq]
    exact ⟨k, hk, hl, .inl h0, rfl⟩

/-! ### Trim, letters -/
set_option maxRecDepth 100000 in
theorem trim67 {H} (s : ByteArray) (hmx : s.size ≤ maxL) : WC C 67 [.str s, .str az] H fun v H' dd => ∃ r : ByteArray, v = .str r ∧ (r.size = 0 ↔ allLow s = true) ∧ H' = H ∧ dd = [] := by
  refine WC_own (fn := Tryd.f67) Tryd.func67 rfl rfl rfl (Or.inl rfl) ?_; simp only [Tryd.f67, List.replicate, List.length_cons, List.length_nil, Nat.reduceSub, Nat.reduceAdd, List.cons_append, List.nil_append]
  simp -dsimp -implicitDefEqProofs only [go_sem, C_P, C_deep, reduceCtorEq, Nat.reduceAdd, Nat.reduceLeDiff, Nat.reduceLT, Nat.reduceEqDiff, Nat.reduceMul, Nat.reduceSub, Nat.reducePow, Int.reduceToNat, Int.reduceLE, Int.reduceLT, Int.reduceEq, str_empty]
  refine Br_intro (fun h => ?_) (fun h => ?_)
  · have h0 := of_decide_eq_true h
    simp -dsimp -implicitDefEqProofs only [go_sem, C_P, C_deep, reduceCtorEq, Nat.reduceAdd, Nat.reduceLeDiff, Nat.reduceLT, Nat.reduceEqDiff, Nat.reduceMul, Nat.reduceSub, Nat.reducePow, Int.reduceToNat, Int.reduceLE, Int.reduceLT, Int.reduceEq, h]
    exact ⟨s, rfl, by simp [h0, allLow_iff]⟩
  · have hz : ((az.size : Nat) : Int) = 26 := rfl
    have hz' : (az.toList == (⟨#[]⟩ : ByteArray).toList) = false := by rw [str_empty]; rfl
    have h261 : ((26 : Int) == 1) = false := rfl
    have h0 := of_decide_eq_false h
    simp -dsimp -implicitDefEqProofs only [go_sem, C_P, C_deep, reduceCtorEq, Nat.reduceAdd, Nat.reduceLeDiff, Nat.reduceLT, Nat.reduceEqDiff, Nat.reduceMul, Nat.reduceSub, Nat.reducePow, Int.reduceToNat, Int.reduceLE, Int.reduceLT, Int.reduceEq, h, hz', hz, h261, WCh_pure set77, tzr_125', azP_len, azP_drop, str_empty]
    refine WCh_of (right79 (ver := 0) (lo := 0) s (by rw [getO_cons_self]; rfl) ⟨Nat.le_refl _, Nat.le_refl _⟩ hmx) ?_
    rintro _ _ _ ⟨k, hk, hl, hor, rfl, rfl, rfl⟩
    simp -dsimp -implicitDefEqProofs only [go_sem, C_P, C_deep, reduceCtorEq, Nat.reduceAdd, Nat.reduceLeDiff, Nat.reduceLT, Nat.reduceEqDiff, Nat.reduceMul, Nat.reduceSub, Nat.reducePow, Int.reduceToNat, Int.reduceLE, Int.reduceLT, Int.reduceEq]
    have hsz : (s.extract 0 k).size = k := by rw [ByteArray.size_extract, Nat.min_eq_left hk, Nat.sub_zero]
    have hbv : ∀ i, i < k → bv (s.extract 0 k) i = bv s i := fun i hi => by rw [bv_extract (by omega) hk, Nat.zero_add]
    refine WCh_of (left78 (ver := 0) (lo := 0) (s.extract 0 k) (by rw [getO_cons_self]; rfl) ⟨Nat.le_refl _, Nat.le_refl _⟩) ?_
    rintro _ _ _ ⟨j, hj, hl2, hor2, rfl, rfl, rfl⟩
    simp -dsimp -implicitDefEqProofs only [go_sem, C_P, C_deep, reduceCtorEq, Nat.reduceAdd, Nat.reduceLeDiff, Nat.reduceLT, Nat.reduceEqDiff, Nat.reduceMul, Nat.reduceSub, Nat.reducePow, Int.reduceToNat, Int.reduceLE, Int.reduceLT, Int.reduceEq]
    refine ⟨_, rfl, ?_⟩
    rw [ByteArray.size_extract, Nat.min_self, hsz]
    rw [hsz] at hj hor2
    constructor
    · intro he
      rw [allLow_iff]
      intro i hi
      rcases Nat.lt_or_ge i k with h3 | h3
      · rw [← hbv i h3]; exact hl2 i (by omega)
      · exact hl i h3 hi
    · intro ha
      rw [allLow_iff] at ha
      rcases hor with rfl | hor
      · omega
      · rcases Nat.eq_zero_or_pos k with h3 | h3
        · omega
        · rw [ha (k - 1) (by omega)] at hor; cases hor
def letF (s : ByteArray) : Int := if allLow s = false then 3 else if s.size > 24 then 17 else 0
def nameF (s : ByteArray) : Int := if allLow s = false then 3 else if s.size = 0 then 3 else if s.size > 24 then 17 else 0
theorem az_eq : (⟨#[97, 98, 99, 100, 101, 102, 103, 104, 105, 106, 107, 108, 109, 110, 111, 112, 113, 114, 115, 116, 117, 118, 119, 120, 121, 122]⟩ : ByteArray) = az := rfl
set_option maxRecDepth 100000 in
theorem let50 (s : ByteArray) (hmx : s.size ≤ maxL) : Pure C 50 [.str s] (.int .i64 (letF s)) := by
  intro H
  refine WC_own (fn := Tryd.f50) Tryd.func50 rfl rfl rfl (Or.inl rfl) ?_; simp only [Tryd.f50, List.replicate, List.length_cons, List.length_nil, Nat.reduceSub, Nat.reduceAdd, List.cons_append, List.nil_append]
  rw [az_eq]
  simp -dsimp -implicitDefEqProofs only [go_sem, C_P, C_deep, reduceCtorEq, Nat.reduceAdd, Nat.reduceLeDiff, Nat.reduceLT, Nat.reduceEqDiff, Nat.reduceMul, Nat.reduceSub, Nat.reducePow, Int.reduceToNat, Int.reduceLE, Int.reduceLT, Int.reduceEq]
  refine WCh_of (trim67 s hmx) ?_
  rintro _ _ _ ⟨r, rfl, hr, rfl, rfl⟩
  unfold letF
  simp -dsimp -implicitDefEqProofs only [go_sem, C_P, C_deep, reduceCtorEq, Nat.reduceAdd, Nat.reduceLeDiff, Nat.reduceLT, Nat.reduceEqDiff, Nat.reduceMul, Nat.reduceSub, Nat.reducePow, Int.reduceToNat, Int.reduceLE, Int.reduceLT, Int.reduceEq, str_empty, lstr_9]
  refine Br_intro (fun h => ?_) (fun h => ?_)
  · simp -dsimp -implicitDefEqProofs only [go_sem, C_P, C_deep, reduceCtorEq, Nat.reduceAdd, Nat.reduceLeDiff, Nat.reduceLT, Nat.reduceEqDiff, Nat.reduceMul, Nat.reduceSub, Nat.reducePow, Int.reduceToNat, Int.reduceLE, Int.reduceLT, Int.reduceEq]
    have h0 : ¬ r.size = 0 := by simpa using h
    rw [hr] at h0
    rw [if_pos (by simpa using h0)]
  · have h0 : r.size = 0 := by simpa using h
    rw [hr] at h0
    rw [if_neg (by simp [h0])]
    simp -dsimp -implicitDefEqProofs only [go_sem, C_P, C_deep, reduceCtorEq, Nat.reduceAdd, Nat.reduceLeDiff, Nat.reduceLT, Nat.reduceEqDiff, Nat.reduceMul, Nat.reduceSub, Nat.reducePow, Int.reduceToNat, Int.reduceLE, Int.reduceLT, Int.reduceEq, lstr_9]
    refine Br_intro (fun h => ?_) (fun h => ?_)
    · simp -dsimp -implicitDefEqProofs only [go_sem, C_P, C_deep, reduceCtorEq, Nat.reduceAdd, Nat.reduceLeDiff, Nat.reduceLT, Nat.reduceEqDiff, Nat.reduceMul, Nat.reduceSub, Nat.reducePow, Int.reduceToNat, Int.reduceLE, Int.reduceLT, Int.reduceEq]
      rw [if_pos (by have := of_decide_eq_true h; omega)]
    · simp -dsimp -implicitDefEqProofs only [go_sem, C_P, C_deep, reduceCtorEq, Nat.reduceAdd, Nat.reduceLeDiff, Nat.reduceLT, Nat.reduceEqDiff, Nat.reduceMul, Nat.reduceSub, Nat.reducePow, Int.reduceToNat, Int.reduceLE, Int.reduceLT, Int.reduceEq]
      rw [if_neg (by have := of_decide_eq_false h; omega)]
def I34 (s : ByteArray) (H : Heap) (i : Nat) (st : St) : Prop :=
  (∀ j, j < i → low (bv s j) = true) ∧ st = ⟨[.str s, gv st 1, .int .i64 0, .int .i64 i, gv st 4, gv st 5, gv st 6, gv st 7, gv st 8, gv st 9, gv st 10, gv st 11, gv st 12, gv st 13, gv st 14, gv st 15, gv st 16, gv st 17, gv st 18, gv st 19, gv st 20, gv st 21, gv st 22, gv st 23, gv st 24], [] :: H, []⟩
set_option maxRecDepth 100000 in
theorem name34 (s : ByteArray) (hmx : s.size ≤ maxL) : Pure C 34 [.str s] (.int .i64 (nameF s)) := by
  intro H
  refine WC_own (fn := Tryd.f34) Tryd.func34 rfl rfl rfl (Or.inl rfl) ?_; simp only [Tryd.f34, List.replicate, List.length_cons, List.length_nil, Nat.reduceSub, Nat.reduceAdd, List.cons_append, List.nil_append]
  simp -dsimp -implicitDefEqProofs only [go_sem, C_P, C_deep, reduceCtorEq, Nat.reduceAdd, Nat.reduceLeDiff, Nat.reduceLT, Nat.reduceEqDiff, Nat.reduceMul, Nat.reduceSub, Nat.reducePow, Int.reduceToNat, Int.reduceLE, Int.reduceLT, Int.reduceEq]
  refine WL_for s.size (I34 s H) ⟨fun j h => by omega, rfl⟩ ?_ ?_
  · rintro i st hi ⟨hl, hst⟩
    rw [hst]
    generalize gv st = x
    have hd : decide ((i : Int) < s.size) = true := by simp; omega
    unfold maxL at hmx
    simp -dsimp -implicitDefEqProofs only [go_sem, C_P, C_deep, reduceCtorEq, Nat.reduceAdd, Nat.reduceLeDiff, Nat.reduceLT, Nat.reduceEqDiff, Nat.reduceMul, Nat.reduceSub, Nat.reducePow, Int.reduceToNat, Int.reduceLE, Int.reduceLT, Int.reduceEq, lstr_9, hd, index_bv hi]
    have hfin : low (bv s i) = false → nameF s = 3 := fun h => by unfold nameF; rw [if_pos (allLow_false hi h)]
    refine Br_intro (fun h => ?_) (fun h => ?_)
    · simp -dsimp -implicitDefEqProofs only [go_sem, C_P, C_deep, reduceCtorEq, Nat.reduceAdd, Nat.reduceLeDiff, Nat.reduceLT, Nat.reduceEqDiff, Nat.reduceMul, Nat.reduceSub, Nat.reducePow, Int.reduceToNat, Int.reduceLE, Int.reduceLT, Int.reduceEq, h]
      rw [hfin (by have := of_decide_eq_true h; simp [low]; omega)]
    · simp -dsimp -implicitDefEqProofs only [go_sem, C_P, C_deep, reduceCtorEq, Nat.reduceAdd, Nat.reduceLeDiff, Nat.reduceLT, Nat.reduceEqDiff, Nat.reduceMul, Nat.reduceSub, Nat.reducePow, Int.reduceToNat, Int.reduceLE, Int.reduceLT, Int.reduceEq, h, index_bv hi]
      refine Br_intro (fun h' => ?_) (fun h' => ?_)
      · simp -dsimp -implicitDefEqProofs only [go_sem, C_P, C_deep, reduceCtorEq, Nat.reduceAdd, Nat.reduceLeDiff, Nat.reduceLT, Nat.reduceEqDiff, Nat.reduceMul, Nat.reduceSub, Nat.reducePow, Int.reduceToNat, Int.reduceLE, Int.reduceLT, Int.reduceEq]
        rw [hfin (by have := of_decide_eq_true h'; simp [low]; omega)]
      · simp -dsimp -implicitDefEqProofs only [go_sem, C_P, C_deep, reduceCtorEq, Nat.reduceAdd, Nat.reduceLeDiff, Nat.reduceLT, Nat.reduceEqDiff, Nat.reduceMul, Nat.reduceSub, Nat.reducePow, Int.reduceToNat, Int.reduceLE, Int.reduceLT, Int.reduceEq, wrap_succ (show i < 9223372036854775807 by omega)]
        refine ⟨fun j hj => ?_, rfl⟩
        rcases Nat.lt_or_ge j i with h3 | h3
        · exact hl j h3
        · have e : j = i := by omega
          have := of_decide_eq_false h; have := of_decide_eq_false h'
          rw [e]; simp [low]; omega
  · rintro st ⟨hl, hst⟩
    rw [hst]
    generalize gv st = x
    have ha : allLow s = true := allLow_iff.2 hl
    unfold nameF
    rw [if_neg (by simp [ha])]
    simp -dsimp -implicitDefEqProofs only [go_sem, C_P, C_deep, reduceCtorEq, Nat.reduceAdd, Nat.reduceLeDiff, Nat.reduceLT, Nat.reduceEqDiff, Nat.reduceMul, Nat.reduceSub, Nat.reducePow, Int.reduceToNat, Int.reduceLE, Int.reduceLT, Int.reduceEq, lstr_9, str_empty]
    refine Br_intro (fun h => ?_) (fun h => ?_)
    · simp -dsimp -implicitDefEqProofs only [go_sem, C_P, C_deep, reduceCtorEq, Nat.reduceAdd, Nat.reduceLeDiff, Nat.reduceLT, Nat.reduceEqDiff, Nat.reduceMul, Nat.reduceSub, Nat.reducePow, Int.reduceToNat, Int.reduceLE, Int.reduceLT, Int.reduceEq]
      rw [if_pos (of_decide_eq_true h)]
    · simp -dsimp -implicitDefEqProofs only [go_sem, C_P, C_deep, reduceCtorEq, Nat.reduceAdd, Nat.reduceLeDiff, Nat.reduceLT, Nat.reduceEqDiff, Nat.reduceMul, Nat.reduceSub, Nat.reducePow, Int.reduceToNat, Int.reduceLE, Int.reduceLT, Int.reduceEq, lstr_9]
      rw [if_neg (of_decide_eq_false h)]
      refine Br_intro (fun h => ?_) (fun h => ?_)
      · simp -dsimp -implicitDefEqProofs only [go_sem, C_P, C_deep, reduceCtorEq, Nat.reduceAdd, Nat.reduceLeDiff, Nat.reduceLT, Nat.reduceEqDiff, Nat.reduceMul, Nat.reduceSub, Nat.reducePow, Int.reduceToNat, Int.reduceLE, Int.reduceLT, Int.reduceEq]
        rw [if_pos (by have := of_decide_eq_true h; omega)]
      · simp -dsimp -implicitDefEqProofs only [go_sem, C_P, C_deep, reduceCtorEq, Nat.reduceAdd, Nat.reduceLeDiff, Nat.reduceLT, Nat.reduceEqDiff, Nat.reduceMul, Nat.reduceSub, Nat.reducePow, Int.reduceToNat, Int.reduceLE, Int.reduceLT, Int.reduceEq]
        rw [if_neg (by have := of_decide_eq_false h; omega)]
end Go.Proofs.YtbcmiddffckgmaaDoor.Am
