/- First. -/
import Derived.Test.YtbcmiddffckgmaaDoorCf
set_option linter.unusedVariables false
set_option linter.unusedSimpArgs false
set_option linter.unnecessarySimpa false
namespace Go.Proofs.YtbcmiddffckgmaaDoor.Am
open Go
set_option maxRecDepth 100000 in
theorem few {most : Int} {sv es} (hs : SV sv es) : Pure C 12 [.agg [.int .i64 most, sv]] (.bool (decide (es.length ≤ 8) || decide (es.length > 256) && decide (es.length ≤ 512))) := by
  intro H
  refine WC_own (fn := Tryd.f12) Tryd.func12 rfl rfl rfl (Or.inl rfl) ?_; simp only [Tryd.f12, List.replicate, List.length_cons, List.length_nil, Nat.reduceSub, Nat.reduceAdd, List.cons_append, List.nil_append]
  simp -dsimp -implicitDefEqProofs only [go_sem, C_P, C_deep, reduceCtorEq, Nat.reduceAdd, Nat.reduceLeDiff, Nat.reduceLT, Nat.reduceEqDiff, Nat.reduceMul, Nat.reduceSub, Nat.reducePow, Int.reduceToNat, Int.reduceLE, Int.reduceLT, Int.reduceEq, len_SV sl_26 hs]
  have e1 : decide ((es.length : Int) ≤ 8) = decide (es.length ≤ 8) := by simp; omega
  have e2 : decide ((es.length : Int) > 256) = decide (es.length > 256) := by simp; omega
  have e3 : decide ((es.length : Int) ≤ 512) = decide (es.length ≤ 512) := by simp; omega
  refine Br_intro (fun h => ?_) (fun h => ?_)
  · simp -dsimp -implicitDefEqProofs only [go_sem, C_P, C_deep, reduceCtorEq, Nat.reduceAdd, Nat.reduceLeDiff, Nat.reduceLT, Nat.reduceEqDiff, Nat.reduceMul, Nat.reduceSub, Nat.reducePow, Int.reduceToNat, Int.reduceLE, Int.reduceLT, Int.reduceEq, len_SV sl_26 hs, h]
    rw [← e1, h]; rfl
  · simp -dsimp -implicitDefEqProofs only [go_sem, C_P, C_deep, reduceCtorEq, Nat.reduceAdd, Nat.reduceLeDiff, Nat.reduceLT, Nat.reduceEqDiff, Nat.reduceMul, Nat.reduceSub, Nat.reducePow, Int.reduceToNat, Int.reduceLE, Int.reduceLT, Int.reduceEq, len_SV sl_26 hs, h]
    rw [← e1, h]
    refine Br_intro (fun h => ?_) (fun h => ?_)
    · simp -dsimp -implicitDefEqProofs only [go_sem, C_P, C_deep, reduceCtorEq, Nat.reduceAdd, Nat.reduceLeDiff, Nat.reduceLT, Nat.reduceEqDiff, Nat.reduceMul, Nat.reduceSub, Nat.reducePow, Int.reduceToNat, Int.reduceLE, Int.reduceLT, Int.reduceEq, len_SV sl_26 hs, h]
      rw [← e2, h, e3]; rfl
    · simp -dsimp -implicitDefEqProofs only [go_sem, C_P, C_deep, reduceCtorEq, Nat.reduceAdd, Nat.reduceLeDiff, Nat.reduceLT, Nat.reduceEqDiff, Nat.reduceMul, Nat.reduceSub, Nat.reducePow, Int.reduceToNat, Int.reduceLE, Int.reduceLT, Int.reduceEq, len_SV sl_26 hs, h]
      rw [← e2, h]; rfl

def OwnI (es : List (List PV)) (most : Int) (sv : PV) (H : Heap) (i : Nat) (st : St) : Prop :=
  ∃ (g : List AObj) (av : PV), Acc 4 H.length 3 g av (es.take i) ∧
    st = ⟨[.agg [.int .i64 most, sv], .ref H.length 0 0 0 2, .ref H.length 1 0 0 2, .ref H.length 2 0 0 2, gv st 4, gv st 5, gv st 6, gv st 7, gv st 8, gv st 9, sv, .int .i64 es.length, .int .i64 i, gv st 13, gv st 14, gv st 15, gv st 16, gv st 17, gv st 18, gv st 19, gv st 20, gv st 21, gv st 22, gv st 23],
      (⟨[.int .i64 most, sv], 0, 0⟩ :: ⟨[.int .i64 0, .nils], 0, 0⟩ :: ⟨[.int .i64 most, av], 0, 0⟩ :: g) :: H, []⟩

set_option maxRecDepth 100000 in
theorem own {most : Int} {sv es} (hs : SV sv es) (h4 : ∀ e ∈ es, e.length = 4) (hn : es.length * 40 ≤ 140737488355328) (hsc : scalL es = true) : Pure C 13 [.agg [.int .i64 most, sv]] (.agg [.int .i64 most, mkS es]) := by
  intro H
  refine WC_own (fn := Tryd.f13) Tryd.func13 rfl rfl rfl (Or.inl rfl) ?_; simp only [Tryd.f13, List.replicate, List.length_cons, List.length_nil, Nat.reduceSub, Nat.reduceAdd, List.cons_append, List.nil_append]
  simp -dsimp -implicitDefEqProofs only [go_sem, C_P, C_deep, reduceCtorEq, Nat.reduceAdd, Nat.reduceLeDiff, Nat.reduceLT, Nat.reduceEqDiff, Nat.reduceMul, Nat.reduceSub, Nat.reducePow, Int.reduceToNat, Int.reduceLE, Int.reduceLT, Int.reduceEq, len_SV sl_22 hs]
  refine WL_for es.length (OwnI es most sv H) ⟨[], .nils, Acc_nil, rfl⟩ ?_ ?_
  · rintro i st hi ⟨g, av, hA, hst⟩
    rw [hst]
    generalize gv st = x
    have hei : es[i]? = some es[i] := List.getElem?_eq_getElem hi
    have hd : decide ((i : Int) < es.length) = true := by simp; omega
    obtain ⟨a, b, c, d, he⟩ : ∃ a b c d, es[i] = [a, b, c, d] := by
      have := h4 es[i] (List.getElem_mem hi)
      match es[i], this with
      | [a, b, c, d], _ => exact ⟨a, b, c, d, rfl⟩
    rw [he] at hei
    simp -dsimp -implicitDefEqProofs only [go_sem, C_P, C_deep, reduceCtorEq, Nat.reduceAdd, Nat.reduceLeDiff, Nat.reduceLT, Nat.reduceEqDiff, Nat.reduceMul, Nat.reduceSub, Nat.reducePow, Int.reduceToNat, Int.reduceLE, Int.reduceLT, Int.reduceEq, hd, index_SV sl_22 hs hei rfl]
    refine WXh_acc sl_26 hA rfl [_, _, _] [_, _] rfl 1 (by omega) rfl rfl (by decide) (room_ok (by decide) (by rw [List.length_take]; omega) hn) ?_
    rw [take_snoc hei]
    intro av' g' wr hA' hwr
    simp -dsimp -implicitDefEqProofs only [go_sem, C_P, C_deep, reduceCtorEq, Nat.reduceAdd, Nat.reduceLeDiff, Nat.reduceLT, Nat.reduceEqDiff, Nat.reduceMul, Nat.reduceSub, Nat.reducePow, Int.reduceToNat, Int.reduceLE, Int.reduceLT, Int.reduceEq, addWs_own hwr, wrap_succ (show i < 9223372036854775807 by omega), hA'.cells, hA'.tup]
    exact ⟨g', av', hA', rfl⟩
  · rintro st ⟨g, av, hA, hst⟩
    rw [hst]
    generalize gv st = x
    rw [List.take_length] at hA
    have hr : ∀ a b c : AObj, reify ((a :: b :: c :: g) :: H) H.length 5 av = some (mkS es) := fun a b c => reify_Acc hA rfl (p := [a, b, c]) rfl (n := 3) (by decide) hsc
    simp -dsimp -implicitDefEqProofs only [go_sem, C_P, C_deep, reduceCtorEq, Nat.reduceAdd, Nat.reduceLeDiff, Nat.reduceLT, Nat.reduceEqDiff, Nat.reduceMul, Nat.reduceSub, Nat.reducePow, Int.reduceToNat, Int.reduceLE, Int.reduceLT, Int.reduceEq, hr]
end Go.Proofs.YtbcmiddffckgmaaDoor.Am
