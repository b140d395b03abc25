/- The reference's check of a set; new stocks; equal stocks. -/
import Derived.Test.YtbcmiddffckgmaaDoorS2
set_option linter.unusedVariables false
set_option linter.unusedSimpArgs false
set_option linter.unnecessarySimpa false
namespace Go.Proofs.YtbcmiddffckgmaaDoor.Am
open Go
def I53 (l : List Int) (sv : PV) (H : Heap) (i : Nat) (st : St) : Prop :=
  chkFrom l (l.length - i) i = chkFrom l l.length 0 ∧
    st = ⟨[sv, gv st 1, .int .i64 0, .int .i64 i, gv st 4, gv st 5, gv st 6, gv st 7, gv st 8, gv st 9, gv st 10, gv st 11, gv st 12, gv st 13, gv st 14, gv st 15, gv st 16, gv st 17, gv st 18, gv st 19, gv st 20, gv st 21, gv st 22, gv st 23, gv st 24, gv st 25, gv st 26, gv st 27, gv st 28, gv st 29, gv st 30, gv st 31, gv st 32, gv st 33, gv st 34, gv st 35, gv st 36, gv st 37, gv st 38], [] :: H, []⟩
set_option maxRecDepth 100000 in
theorem chk53 {sv l} (hs : SV sv (ints l)) : Pure C 53 [sv] (.int .i64 (chkSet l)) := by
  intro H
  refine WC_own (fn := Tryd.f53) Tryd.func53 rfl rfl rfl (Or.inl rfl) ?_; simp only [Tryd.f53, List.replicate, List.length_cons, List.length_nil, Nat.reduceSub, Nat.reduceAdd, List.cons_append, List.nil_append]
  have hdr := dr_53; simp only [drwF, Tryd.f53, drw, cond_true, cond_false, List.append_nil, List.nil_append, List.cons_append, List.map_cons, List.map_nil, List.cons.injEq, and_true] at hdr
  simp -dsimp -implicitDefEqProofs only [go_sem, C_P, C_deep, reduceCtorEq, Nat.reduceAdd, Nat.reduceLeDiff, Nat.reduceLT, Nat.reduceEqDiff, Nat.reduceMul, Nat.reduceSub, Nat.reducePow, Int.reduceToNat, Int.reduceLE, Int.reduceLT, Int.reduceEq, len_SV sl_31 hs, ints_len]
  unfold chkSet
  refine Br_intro (fun h => ?_) (fun h => ?_)
  · simp -dsimp -implicitDefEqProofs only [go_sem, C_P, C_deep, reduceCtorEq, Nat.reduceAdd, Nat.reduceLeDiff, Nat.reduceLT, Nat.reduceEqDiff, Nat.reduceMul, Nat.reduceSub, Nat.reducePow, Int.reduceToNat, Int.reduceLE, Int.reduceLT, Int.reduceEq]
    rw [if_pos (by have := of_decide_eq_true h; omega)]
  · have hn : l.length ≤ 256 := by have := of_decide_eq_false h; omega
    simp -dsimp -implicitDefEqProofs only [go_sem, C_P, C_deep, reduceCtorEq, Nat.reduceAdd, Nat.reduceLeDiff, Nat.reduceLT, Nat.reduceEqDiff, Nat.reduceMul, Nat.reduceSub, Nat.reducePow, Int.reduceToNat, Int.reduceLE, Int.reduceLT, Int.reduceEq, len_SV sl_31 hs, ints_len]
    rw [if_neg (by omega)]
    refine WL_for l.length (I53 l sv H) ⟨rfl, rfl⟩ ?_ ?_
    · rintro i st hi ⟨hR, hst⟩
      rw [hst]
      generalize gv st = x
      have hd : decide ((i : Int) < l.length) = true := by simp; omega
      have hk : l.length - i = (l.length - (i + 1)) + 1 := by omega
      have hv := index_SV (k := .i64) sl_31 hs (ints_get hi) rfl
      rw [hk, chkFrom] at hR
      simp -dsimp -implicitDefEqProofs only [go_sem, C_P, C_deep, reduceCtorEq, Nat.reduceAdd, Nat.reduceLeDiff, Nat.reduceLT, Nat.reduceEqDiff, Nat.reduceMul, Nat.reduceSub, Nat.reducePow, Int.reduceToNat, Int.reduceLE, Int.reduceLT, Int.reduceEq, hd, len_SV sl_31 hs, ints_len, hv]
      refine Br_intro (fun h => ?_) (fun h => ?_)
      · simp -dsimp -implicitDefEqProofs only [go_sem, C_P, C_deep, reduceCtorEq, Nat.reduceAdd, Nat.reduceLeDiff, Nat.reduceLT, Nat.reduceEqDiff, Nat.reduceMul, Nat.reduceSub, Nat.reducePow, Int.reduceToNat, Int.reduceLE, Int.reduceLT, Int.reduceEq, h]
        rw [← hR, if_pos (by have := of_decide_eq_true h; rw [inR_false]; omega)]
      · simp -dsimp -implicitDefEqProofs only [go_sem, C_P, C_deep, reduceCtorEq, Nat.reduceAdd, Nat.reduceLeDiff, Nat.reduceLT, Nat.reduceEqDiff, Nat.reduceMul, Nat.reduceSub, Nat.reducePow, Int.reduceToNat, Int.reduceLE, Int.reduceLT, Int.reduceEq, h, hv]
        refine Br_intro (fun h' => ?_) (fun h' => ?_)
        · simp -dsimp -implicitDefEqProofs only [go_sem, C_P, C_deep, reduceCtorEq, Nat.reduceAdd, Nat.reduceLeDiff, Nat.reduceLT, Nat.reduceEqDiff, Nat.reduceMul, Nat.reduceSub, Nat.reducePow, Int.reduceToNat, Int.reduceLE, Int.reduceLT, Int.reduceEq]
          rw [← hR, if_pos (by have := of_decide_eq_true h'; rw [inR_false]; omega)]
        · have hin : ¬ inR_ (l.getD i 0) 1 100000 = false := by
            have := of_decide_eq_false h; have := of_decide_eq_false h'; rw [inR_false]; omega
          rw [if_neg hin] at hR
          simp -dsimp -implicitDefEqProofs only [go_sem, C_P, C_deep, reduceCtorEq, Nat.reduceAdd, Nat.reduceLeDiff, Nat.reduceLT, Nat.reduceEqDiff, Nat.reduceMul, Nat.reduceSub, Nat.reducePow, Int.reduceToNat, Int.reduceLE, Int.reduceLT, Int.reduceEq, ↓W_drawnL hdr]
          refine Br_intro (fun h1 => ?_) (fun h1 => ?_)
          · have hi0 : 0 < i := by have := of_decide_eq_true h1; omega
            have hsub : IntKind.i64.wrap ((i : Int) - 1) = ((i - 1 : Nat) : Int) := by rw [wrap64 (by omega)]; omega
            simp -dsimp -implicitDefEqProofs only [go_sem, C_P, C_deep, reduceCtorEq, Nat.reduceAdd, Nat.reduceLeDiff, Nat.reduceLT, Nat.reduceEqDiff, Nat.reduceMul, Nat.reduceSub, Nat.reducePow, Int.reduceToNat, Int.reduceLE, Int.reduceLT, Int.reduceEq, h1, hsub, hv, index_SV sl_31 hs (ints_get (show i - 1 < l.length by omega)) rfl]
            refine Br_intro (fun h2 => ?_) (fun h2 => ?_)
            · simp -dsimp -implicitDefEqProofs only [go_sem, C_P, C_deep, reduceCtorEq, Nat.reduceAdd, Nat.reduceLeDiff, Nat.reduceLT, Nat.reduceEqDiff, Nat.reduceMul, Nat.reduceSub, Nat.reducePow, Int.reduceToNat, Int.reduceLE, Int.reduceLT, Int.reduceEq]
              rw [← hR, if_pos ⟨hi0, of_decide_eq_true h2⟩]
            · simp -dsimp -implicitDefEqProofs only [go_sem, C_P, C_deep, reduceCtorEq, Nat.reduceAdd, Nat.reduceLeDiff, Nat.reduceLT, Nat.reduceEqDiff, Nat.reduceMul, Nat.reduceSub, Nat.reducePow, Int.reduceToNat, Int.reduceLE, Int.reduceLT, Int.reduceEq, wrap_succ (show i < 9223372036854775807 by omega)]
              rw [if_neg (fun h3 => of_decide_eq_false h2 h3.2)] at hR
              exact ⟨hR, rfl⟩
          · simp -dsimp -implicitDefEqProofs only [go_sem, C_P, C_deep, reduceCtorEq, Nat.reduceAdd, Nat.reduceLeDiff, Nat.reduceLT, Nat.reduceEqDiff, Nat.reduceMul, Nat.reduceSub, Nat.reducePow, Int.reduceToNat, Int.reduceLE, Int.reduceLT, Int.reduceEq, h1, wrap_succ (show i < 9223372036854775807 by omega)]
            rw [if_neg (fun h3 => of_decide_eq_false h1 (by omega))] at hR
            exact ⟨hR, rfl⟩
    · rintro st ⟨hR, hst⟩
      rw [hst]
      generalize gv st = x
      rw [Nat.sub_self, chkFrom] at hR
      simp -dsimp -implicitDefEqProofs only [go_sem, C_P, C_deep, reduceCtorEq, Nat.reduceAdd, Nat.reduceLeDiff, Nat.reduceLT, Nat.reduceEqDiff, Nat.reduceMul, Nat.reduceSub, Nat.reducePow, Int.reduceToNat, Int.reduceLE, Int.reduceLT, Int.reduceEq, len_SV sl_31 hs, ints_len, ← hR]

/-! ### new stocks -/
def newB (n : Int) : Blk := ⟨n, 0, 0, ByteArray.empty⟩
/-- The stock of new blocks, and the error. -/
def newRes (most : Int) (l : List Int) : PV :=
  if inR_ most 0 100000 = false then .tup [.agg [.int .i64 0, .nils], .int .i64 2]
  else if chkSet l ≠ 0 then .tup [.agg [.int .i64 0, .nils], .int .i64 (chkSet l)]
  else .tup [.agg [.int .i64 most, mkS (blks (l.map newB))], .int .i64 0]
theorem chk_len {l : List Int} (h : chkSet l = 0) : l.length ≤ 256 := by
  unfold chkSet at h
  split at h
  · omega
  · omega
theorem newB_take {l : List Int} {i : Nat} (hi : i < l.length) : blks ((l.take i).map newB) ++ [(newB (l.getD i 0)).c] = blks ((l.take (i + 1)).map newB) := by
  unfold blks
  rw [List.map_take, List.map_take, List.map_take, List.map_take]
  refine take_snoc ?_
  rw [List.getElem?_map, List.getElem?_map, List.getElem?_eq_getElem hi, List.getD_eq_getElem?_getD, List.getElem?_eq_getElem hi]; rfl
def I22 (l : List Int) (most : Int) (sv : PV) (H : Heap) (i : Nat) (st : St) : Prop :=
  ∃ (g : List AObj) (av : PV), Acc 4 H.length 2 g av (blks ((l.take i).map newB)) ∧
    st = ⟨[.int .i64 most, sv, gv st 2, gv st 3, .ref H.length 0 0 0 2, .int .i64 0, gv st 6, .ref H.length 1 0 0 2, gv st 8, gv st 9, gv st 10, gv st 11, gv st 12, gv st 13, gv st 14, gv st 15, gv st 16, gv st 17, gv st 18, gv st 19, gv st 20, gv st 21, sv, .int .i64 l.length, .int .i64 i, gv st 25, gv st 26, gv st 27, gv st 28, gv st 29, gv st 30, gv st 31, gv st 32, gv st 33, gv st 34, gv st 35, gv st 36],
      (⟨[.int .i64 0, .nils], 0, 0⟩ :: ⟨[.int .i64 most, av], 0, 0⟩ :: g) :: H, []⟩
set_option maxRecDepth 100000 in
theorem new22 {most sv l} (hs : SV sv (ints l)) : Pure C 22 [.int .i64 most, sv] (newRes most l) := by
  intro H
  refine WC_own (fn := Tryd.f22) Tryd.func22 rfl rfl rfl (Or.inl rfl) ?_; simp only [Tryd.f22, List.replicate, List.length_cons, List.length_nil, Nat.reduceSub, Nat.reduceAdd, List.cons_append, List.nil_append]
  simp -dsimp -implicitDefEqProofs only [go_sem, C_P, C_deep, reduceCtorEq, Nat.reduceAdd, Nat.reduceLeDiff, Nat.reduceLT, Nat.reduceEqDiff, Nat.reduceMul, Nat.reduceSub, Nat.reducePow, Int.reduceToNat, Int.reduceLE, Int.reduceLT, Int.reduceEq, WCh_pure (in49 _ _ _)]
  unfold newRes
  refine Br_intro (fun h => ?_) (fun h => ?_)
  · simp -dsimp -implicitDefEqProofs only [go_sem, C_P, C_deep, reduceCtorEq, Nat.reduceAdd, Nat.reduceLeDiff, Nat.reduceLT, Nat.reduceEqDiff, Nat.reduceMul, Nat.reduceSub, Nat.reducePow, Int.reduceToNat, Int.reduceLE, Int.reduceLT, Int.reduceEq]
    rw [if_pos (by simpa using h)]
  · rw [if_neg (by simpa using h)]
    simp -dsimp -implicitDefEqProofs only [go_sem, C_P, C_deep, reduceCtorEq, Nat.reduceAdd, Nat.reduceLeDiff, Nat.reduceLT, Nat.reduceEqDiff, Nat.reduceMul, Nat.reduceSub, Nat.reducePow, Int.reduceToNat, Int.reduceLE, Int.reduceLT, Int.reduceEq, WCh_pure (chk52 hs)]
    refine Br_intro (fun h => ?_) (fun h => ?_)
    · simp -dsimp -implicitDefEqProofs only [go_sem, C_P, C_deep, reduceCtorEq, Nat.reduceAdd, Nat.reduceLeDiff, Nat.reduceLT, Nat.reduceEqDiff, Nat.reduceMul, Nat.reduceSub, Nat.reducePow, Int.reduceToNat, Int.reduceLE, Int.reduceLT, Int.reduceEq]
      rw [if_pos (by simpa using h)]
    · have hc : chkSet l = 0 := by simpa using h
      have hn := chk_len hc
      rw [if_neg (by simp [hc])]
      simp -dsimp -implicitDefEqProofs only [go_sem, C_P, C_deep, reduceCtorEq, Nat.reduceAdd, Nat.reduceLeDiff, Nat.reduceLT, Nat.reduceEqDiff, Nat.reduceMul, Nat.reduceSub, Nat.reducePow, Int.reduceToNat, Int.reduceLE, Int.reduceLT, Int.reduceEq, len_SV sl_31 hs, ints_len]
      refine WL_for l.length (I22 l most sv H) ⟨[], .nils, Acc_nil, rfl⟩ ?_ ?_
      · rintro i st hi ⟨g, av, hA, hst⟩
        rw [hst]
        generalize gv st = x
        have hd : decide ((i : Int) < l.length) = true := by simp; omega
        simp -dsimp -implicitDefEqProofs only [go_sem, C_P, C_deep, reduceCtorEq, Nat.reduceAdd, Nat.reduceLeDiff, Nat.reduceLT, Nat.reduceEqDiff, Nat.reduceMul, Nat.reduceSub, Nat.reducePow, Int.reduceToNat, Int.reduceLE, Int.reduceLT, Int.reduceEq, hd, index_SV sl_31 hs (ints_get hi) rfl]
        refine WXh_acc sl_22 hA rfl [_, _] [_] rfl 0 (by omega) rfl rfl (by decide) (room_ok (m := 256) (by decide) (by simp [blks]; omega) (by decide)) ?_
        rw [show [PV.int IntKind.i64 (l.getD i 0), .int .i64 0, .int .i64 0, .str ByteArray.empty] = (newB (l.getD i 0)).c from rfl, newB_take hi]
        intro av' g' wr hA' hwr
        simp -dsimp -implicitDefEqProofs only [go_sem, C_P, C_deep, reduceCtorEq, Nat.reduceAdd, Nat.reduceLeDiff, Nat.reduceLT, Nat.reduceEqDiff, Nat.reduceMul, Nat.reduceSub, Nat.reducePow, Int.reduceToNat, Int.reduceLE, Int.reduceLT, Int.reduceEq, addWs_own hwr, wrap_succ (show i < 9223372036854775807 by omega), hA'.cells, hA'.tup]
        exact ⟨g', av', hA', rfl⟩
      · rintro st ⟨g, av, hA, hst⟩
        rw [hst]
        generalize gv st = x
        rw [List.take_length] at hA
        have hr : ∀ a b : AObj, reify ((a :: b :: g) :: H) H.length 4 av = some (mkS (blks (l.map newB))) := fun a b => reify_Acc hA rfl (p := [a, b]) rfl (n := 2) (by decide) (blks_scal _)
        simp -dsimp -implicitDefEqProofs only [go_sem, C_P, C_deep, reduceCtorEq, Nat.reduceAdd, Nat.reduceLeDiff, Nat.reduceLT, Nat.reduceEqDiff, Nat.reduceMul, Nat.reduceSub, Nat.reducePow, Int.reduceToNat, Int.reduceLE, Int.reduceLT, Int.reduceEq, hr, hA.cells, hA.tup]
end Go.Proofs.YtbcmiddffckgmaaDoor.Am
