/- Sets and stocks: small tests; the check of a set; new stocks; equal stocks. -/
import Derived.Test.YtbcmiddffckgmaaDoorS1
set_option linter.unusedVariables false
set_option linter.unusedSimpArgs false
set_option linter.unnecessarySimpa false
namespace Go.Proofs.YtbcmiddffckgmaaDoor.Am
open Go
/-- A block, its cells. -/
structure Blk where
  len : Int
  wear : Int
  uses : Int
  who : ByteArray
def Blk.c (b : Blk) : List PV := [.int .i64 b.len, .int .i64 b.wear, .int .i64 b.uses, .str b.who]
def Blk.eqb (x y : Blk) : Bool := x.len == y.len && (x.wear == y.wear && (x.uses == y.uses && x.who.toList == y.who.toList))
def blks (l : List Blk) : List (List PV) := l.map Blk.c
def ints (l : List Int) : List (List PV) := l.map fun n => [.int .i64 n]
theorem eqC78 (a b c : Int) (s : ByteArray) (a' b' c' : Int) (s' : ByteArray) : eqC PP Op.maxDepth 78 (.agg [.int .i64 a, .int .i64 b, .int .i64 c, .str s]) (.agg [.int .i64 a', .int .i64 b', .int .i64 c', .str s']) =
    (if a == a' then (if b == b' then (if c == c' then (if s.toList == s'.toList then some true else some false) else some false) else some false) else some false) := by kernel_rfl
theorem neq78 (x y : Blk) : binOpP PP .neq 78 (.agg x.c) (.agg y.c) = some (.bool !(x.eqb y)) := by
  have h : binOpP PP .neq 78 (.agg x.c) (.agg y.c) = (eqC PP Op.maxDepth 78 (.agg x.c) (.agg y.c)).map fun b => .bool !b := by kernel_rfl
  rw [h, Blk.c, Blk.c, eqC78, Blk.eqb]
  cases x.len == y.len <;> cases x.wear == y.wear <;> cases x.uses == y.uses <;> cases x.who.toList == y.who.toList <;> rfl
theorem Blk.eqb_refl (x : Blk) : x.eqb x = true := by simp [Blk.eqb]
theorem ints_len (l : List Int) : (ints l).length = l.length := by simp [ints]
theorem blks_len (l : List Blk) : (blks l).length = l.length := by simp [blks]
theorem ints_get {l : List Int} {i : Nat} (h : i < l.length) : (ints l)[i]? = some [.int .i64 (l.getD i 0)] := by
  unfold ints; rw [List.getElem?_map, List.getElem?_eq_getElem h, List.getD_eq_getElem?_getD, List.getElem?_eq_getElem h]; rfl
theorem blks_get {l : List Blk} {i : Nat} {b : Blk} (h : l[i]? = some b) : (blks l)[i]? = some b.c := by
  unfold blks; rw [List.getElem?_map, h]; rfl
theorem ints_one (l : List Int) : ∀ e ∈ ints l, e.length = 1 := by
  intro e he; unfold ints at he; obtain ⟨n, _, rfl⟩ := List.mem_map.1 he; rfl
theorem blks_four (l : List Blk) : ∀ e ∈ blks l, e.length = 4 := by
  intro e he; unfold blks at he; obtain ⟨n, _, rfl⟩ := List.mem_map.1 he; rfl
theorem ints_scal (l : List Int) : scalL (ints l) = true := by
  unfold scalL; rw [List.all_eq_true]; intro e he; unfold ints at he; obtain ⟨n, _, rfl⟩ := List.mem_map.1 he; rfl
theorem blks_scal (l : List Blk) : scalL (blks l) = true := by
  unfold scalL; rw [List.all_eq_true]; intro e he; unfold blks at he; obtain ⟨n, _, rfl⟩ := List.mem_map.1 he; rfl

/-! ### small tests -/
def inR_ (n lo hi : Int) : Bool := decide (lo ≤ n) && decide (n ≤ hi)
theorem inR_true {n lo hi : Int} : inR_ n lo hi = true ↔ lo ≤ n ∧ n ≤ hi := by unfold inR_; simp
theorem inR_false {n lo hi : Int} : inR_ n lo hi = false ↔ ¬ (lo ≤ n ∧ n ≤ hi) := by rw [← inR_true]; simp
set_option maxRecDepth 100000 in
theorem in49 (n lo hi : Int) : Pure C 49 [.int .i64 n, .int .i64 lo, .int .i64 hi] (.bool (inR_ n lo hi)) := by
  intro H
  refine WC_own (fn := Tryd.f49) Tryd.func49 rfl rfl rfl (Or.inl rfl) ?_; simp only [Tryd.f49, List.replicate, List.length_cons, List.length_nil, Nat.reduceSub, Nat.reduceAdd, List.cons_append, List.nil_append]
  simp -dsimp -implicitDefEqProofs only [go_sem, C_P, C_deep, reduceCtorEq, Nat.reduceAdd, Nat.reduceLeDiff, Nat.reduceLT, Nat.reduceEqDiff, Nat.reduceMul, Nat.reduceSub, Nat.reducePow, Int.reduceToNat, Int.reduceLE, Int.reduceLT, Int.reduceEq, ge_iff_le]
  unfold inR_
  refine Br_intro (fun h => ?_) (fun h => ?_) <;> simp -dsimp -implicitDefEqProofs only [go_sem, C_P, C_deep, reduceCtorEq, Nat.reduceAdd, Nat.reduceLeDiff, Nat.reduceLT, Nat.reduceEqDiff, Nat.reduceMul, Nat.reduceSub, Nat.reducePow, Int.reduceToNat, Int.reduceLE, Int.reduceLT, Int.reduceEq, ge_iff_le, h]
set_option maxRecDepth 100000 in
theorem len51 (n lo : Int) : Pure C 51 [.int .i64 n, .int .i64 lo] (.bool (inR_ n lo 100000)) := by
  intro H
  refine WC_own (fn := Tryd.f51) Tryd.func51 rfl rfl rfl (Or.inl rfl) ?_; simp only [Tryd.f51, List.replicate, List.length_cons, List.length_nil, Nat.reduceSub, Nat.reduceAdd, List.cons_append, List.nil_append]
  simp -dsimp -implicitDefEqProofs only [go_sem, C_P, C_deep, reduceCtorEq, Nat.reduceAdd, Nat.reduceLeDiff, Nat.reduceLT, Nat.reduceEqDiff, Nat.reduceMul, Nat.reduceSub, Nat.reducePow, Int.reduceToNat, Int.reduceLE, Int.reduceLT, Int.reduceEq, ge_iff_le]
  unfold inR_
  refine Br_intro (fun h => ?_) (fun h => ?_) <;> simp -dsimp -implicitDefEqProofs only [go_sem, C_P, C_deep, reduceCtorEq, Nat.reduceAdd, Nat.reduceLeDiff, Nat.reduceLT, Nat.reduceEqDiff, Nat.reduceMul, Nat.reduceSub, Nat.reducePow, Int.reduceToNat, Int.reduceLE, Int.reduceLT, Int.reduceEq, ge_iff_le, h]
set_option maxRecDepth 100000 in
theorem ins68 (n : Int) : Pure C 68 [.int .i64 n] (.bool (inR_ n 1 100000)) := by
  intro H
  refine WC_own (fn := Tryd.f68) Tryd.func68 rfl rfl rfl (Or.inl rfl) ?_; simp only [Tryd.f68, List.replicate, List.length_cons, List.length_nil, Nat.reduceSub, Nat.reduceAdd, List.cons_append, List.nil_append]
  simp -dsimp -implicitDefEqProofs only [go_sem, C_P, C_deep, reduceCtorEq, Nat.reduceAdd, Nat.reduceLeDiff, Nat.reduceLT, Nat.reduceEqDiff, Nat.reduceMul, Nat.reduceSub, Nat.reducePow, Int.reduceToNat, Int.reduceLE, Int.reduceLT, Int.reduceEq, ge_iff_le]
  unfold inR_
  refine Br_intro (fun h => ?_) (fun h => ?_) <;> simp -dsimp -implicitDefEqProofs only [go_sem, C_P, C_deep, reduceCtorEq, Nat.reduceAdd, Nat.reduceLeDiff, Nat.reduceLT, Nat.reduceEqDiff, Nat.reduceMul, Nat.reduceSub, Nat.reducePow, Int.reduceToNat, Int.reduceLE, Int.reduceLT, Int.reduceEq, ge_iff_le, h]
set_option maxRecDepth 100000 in
theorem ins69 (n : Int) : Pure C 69 [.int .i64 n] (.bool (inR_ n 1 100000)) := by
  intro H
  refine WC_own (fn := Tryd.f69) Tryd.func69 rfl rfl rfl (Or.inl rfl) ?_; simp only [Tryd.f69, List.replicate, List.length_cons, List.length_nil, Nat.reduceSub, Nat.reduceAdd, List.cons_append, List.nil_append]
  simp -dsimp -implicitDefEqProofs only [go_sem, C_P, C_deep, reduceCtorEq, Nat.reduceAdd, Nat.reduceLeDiff, Nat.reduceLT, Nat.reduceEqDiff, Nat.reduceMul, Nat.reduceSub, Nat.reducePow, Int.reduceToNat, Int.reduceLE, Int.reduceLT, Int.reduceEq, ge_iff_le]
  unfold inR_
  refine Br_intro (fun h => ?_) (fun h => ?_) <;> simp -dsimp -implicitDefEqProofs only [go_sem, C_P, C_deep, reduceCtorEq, Nat.reduceAdd, Nat.reduceLeDiff, Nat.reduceLT, Nat.reduceEqDiff, Nat.reduceMul, Nat.reduceSub, Nat.reducePow, Int.reduceToNat, Int.reduceLE, Int.reduceLT, Int.reduceEq, ge_iff_le, h]

/-! ### the check of a set -/
def chkFrom (l : List Int) : Nat → Nat → Int
  | 0, _ => 0
  | k + 1, i => if inR_ (l.getD i 0) 1 100000 = false then 2 else if 0 < i ∧ l.getD i 0 ≤ l.getD (i - 1) 0 then 9 else chkFrom l k (i + 1)
def chkSet (l : List Int) : Int := if l.length > 256 then 5 else chkFrom l l.length 0

def I52 (l : List Int) (sv : PV) (H : Heap) (i : Nat) (st : St) : Prop :=
  chkFrom l (l.length - i) i = chkFrom l l.length 0 ∧
    st = ⟨[sv, gv st 1, .int .i64 0, gv st 3, gv st 4, gv st 5, gv st 6, gv st 7, sv, .int .i64 l.length, .int .i64 i, gv st 11, gv st 12, gv st 13, gv st 14, gv st 15, gv st 16, gv st 17, gv st 18, gv st 19, gv st 20, gv st 21, gv st 22, gv st 23, gv st 24, gv st 25, gv st 26, gv st 27, gv st 28, gv st 29, gv st 30, gv st 31], [] :: H, []⟩
set_option maxRecDepth 100000 in
theorem chk52 {sv l} (hs : SV sv (ints l)) : Pure C 52 [sv] (.int .i64 (chkSet l)) := by
  intro H
  refine WC_own (fn := Tryd.f52) Tryd.func52 rfl rfl rfl (Or.inl rfl) ?_; simp only [Tryd.f52, List.replicate, List.length_cons, List.length_nil, Nat.reduceSub, Nat.reduceAdd, List.cons_append, List.nil_append]
  simp -dsimp -implicitDefEqProofs only [go_sem, C_P, C_deep, reduceCtorEq, Nat.reduceAdd, Nat.reduceLeDiff, Nat.reduceLT, Nat.reduceEqDiff, Nat.reduceMul, Nat.reduceSub, Nat.reducePow, Int.reduceToNat, Int.reduceLE, Int.reduceLT, Int.reduceEq, len_SV sl_31 hs, ints_len]
  unfold chkSet
  refine Br_intro (fun h => ?_) (fun h => ?_)
  · simp -dsimp -implicitDefEqProofs only [go_sem, C_P, C_deep, reduceCtorEq, Nat.reduceAdd, Nat.reduceLeDiff, Nat.reduceLT, Nat.reduceEqDiff, Nat.reduceMul, Nat.reduceSub, Nat.reducePow, Int.reduceToNat, Int.reduceLE, Int.reduceLT, Int.reduceEq]
    rw [if_pos (by have := of_decide_eq_true h; omega)]
  · have hn : l.length ≤ 256 := by have := of_decide_eq_false h; omega
    simp -dsimp -implicitDefEqProofs only [go_sem, C_P, C_deep, reduceCtorEq, Nat.reduceAdd, Nat.reduceLeDiff, Nat.reduceLT, Nat.reduceEqDiff, Nat.reduceMul, Nat.reduceSub, Nat.reducePow, Int.reduceToNat, Int.reduceLE, Int.reduceLT, Int.reduceEq, len_SV sl_31 hs, ints_len]
    rw [if_neg (by omega)]
    refine WL_for l.length (I52 l sv H) ⟨rfl, rfl⟩ ?_ ?_
    · rintro i st hi ⟨hR, hst⟩
      rw [hst]
      generalize gv st = x
      have hd : decide ((i : Int) < l.length) = true := by simp; omega
      have hk : l.length - i = (l.length - (i + 1)) + 1 := by omega
      rw [hk, chkFrom] at hR
      simp -dsimp -implicitDefEqProofs only [go_sem, C_P, C_deep, reduceCtorEq, Nat.reduceAdd, Nat.reduceLeDiff, Nat.reduceLT, Nat.reduceEqDiff, Nat.reduceMul, Nat.reduceSub, Nat.reducePow, Int.reduceToNat, Int.reduceLE, Int.reduceLT, Int.reduceEq, hd, index_SV sl_31 hs (ints_get hi) rfl, WCh_pure (ins68 _)]
      refine Br_intro (fun h => ?_) (fun h => ?_)
      · simp -dsimp -implicitDefEqProofs only [go_sem, C_P, C_deep, reduceCtorEq, Nat.reduceAdd, Nat.reduceLeDiff, Nat.reduceLT, Nat.reduceEqDiff, Nat.reduceMul, Nat.reduceSub, Nat.reducePow, Int.reduceToNat, Int.reduceLE, Int.reduceLT, Int.reduceEq]
        rw [← hR, if_pos (by simpa using h)]
      · simp -dsimp -implicitDefEqProofs only [go_sem, C_P, C_deep, reduceCtorEq, Nat.reduceAdd, Nat.reduceLeDiff, Nat.reduceLT, Nat.reduceEqDiff, Nat.reduceMul, Nat.reduceSub, Nat.reducePow, Int.reduceToNat, Int.reduceLE, Int.reduceLT, Int.reduceEq]
        rw [if_neg (by simpa using h)] at hR
        refine Br_intro (fun h1 => ?_) (fun h1 => ?_)
        · have hi0 : 0 < i := by have := of_decide_eq_true h1; omega
          have hsub : IntKind.i64.wrap ((i : Int) - 1) = ((i - 1 : Nat) : Int) := by rw [wrap64 (by omega)]; omega
          simp -dsimp -implicitDefEqProofs only [go_sem, C_P, C_deep, reduceCtorEq, Nat.reduceAdd, Nat.reduceLeDiff, Nat.reduceLT, Nat.reduceEqDiff, Nat.reduceMul, Nat.reduceSub, Nat.reducePow, Int.reduceToNat, Int.reduceLE, Int.reduceLT, Int.reduceEq, h1, hsub, index_SV sl_31 hs (ints_get (show i - 1 < l.length by omega)) rfl]
          refine Br_intro (fun h2 => ?_) (fun h2 => ?_)
          · simp -dsimp -implicitDefEqProofs only [go_sem, C_P, C_deep, reduceCtorEq, Nat.reduceAdd, Nat.reduceLeDiff, Nat.reduceLT, Nat.reduceEqDiff, Nat.reduceMul, Nat.reduceSub, Nat.reducePow, Int.reduceToNat, Int.reduceLE, Int.reduceLT, Int.reduceEq]
            rw [← hR, if_pos ⟨hi0, of_decide_eq_true h2⟩]
          · simp -dsimp -implicitDefEqProofs only [go_sem, C_P, C_deep, reduceCtorEq, Nat.reduceAdd, Nat.reduceLeDiff, Nat.reduceLT, Nat.reduceEqDiff, Nat.reduceMul, Nat.reduceSub, Nat.reducePow, Int.reduceToNat, Int.reduceLE, Int.reduceLT, Int.reduceEq, wrap_succ (show i < 9223372036854775807 by omega)]
            rw [if_neg (fun h3 => of_decide_eq_false h2 h3.2)] at hR
            exact ⟨hR, rfl⟩
        · simp -dsimp -implicitDefEqProofs only [go_sem, C_P, C_deep, reduceCtorEq, Nat.reduceAdd, Nat.reduceLeDiff, Nat.reduceLT, Nat.reduceEqDiff, Nat.reduceMul, Nat.reduceSub, Nat.reducePow, Int.reduceToNat, Int.reduceLE, Int.reduceLT, Int.reduceEq, h1, wrap_succ (show i < 9223372036854775807 by omega)]
          rw [if_neg (fun h3 => of_decide_eq_false h1 (by omega))] at hR
          exact ⟨hR, rfl⟩
    · rintro st ⟨hR, hst⟩
      rw [hst]
      generalize gv st = x
      rw [Nat.sub_self, chkFrom] at hR
      simp -dsimp -implicitDefEqProofs only [go_sem, C_P, C_deep, reduceCtorEq, Nat.reduceAdd, Nat.reduceLeDiff, Nat.reduceLT, Nat.reduceEqDiff, Nat.reduceMul, Nat.reduceSub, Nat.reducePow, Int.reduceToNat, Int.reduceLE, Int.reduceLT, Int.reduceEq, ← hR]
end Go.Proofs.YtbcmiddffckgmaaDoor.Am
