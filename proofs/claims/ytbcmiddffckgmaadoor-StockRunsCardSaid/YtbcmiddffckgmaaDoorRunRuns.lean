/- The run of StockRuns. -/
import Derived.Test.YtbcmiddffckgmaaDoorJ3
import Derived.Test.YtbcmiddffckgmaaDoorRunChecks
import Derived.Test.YtbcmiddffckgmaaDoorBr3
set_option linter.unusedVariables false
set_option linter.unusedSimpArgs false
set_option linter.unnecessarySimpa false
namespace Go.Proofs.YtbcmiddffckgmaaDoor.Am
open Go
set_option maxHeartbeats 2000000 in
set_option maxRecDepth 100000 in
theorem stockRuns_run {most : Int} {sv esv : PV} {l : List Blk} {xs : List Ev} (hs : SV sv (blks l)) (hw : ∀ b ∈ l, b.who.size ≤ maxL) (hn : l.length * 40 ≤ 140737488355328)
    (he : SV esv (evs xs)) (hx : ∀ x ∈ xs, x.who.size ≤ maxL) (hxn : xs.length * 40 ≤ 140737488355328) :
    WC C 10 [.agg [.int .i64 most, sv], esv] [] fun v _ _ => v = .bool true := by
  refine WC_own (fn := Tryd.f10) Tryd.func10 rfl rfl rfl (Or.inl rfl) ?_; simp only [Tryd.f10, List.replicate, List.length_cons, List.length_nil, Nat.reduceSub, Nat.reduceAdd, List.cons_append, List.nil_append]
  have hdr := dr_10; simp only [drwF, Tryd.f10, drw, cond_true, cond_false, List.append_nil, List.nil_append, List.cons_append, List.map_cons, List.map_nil, List.cons.injEq, and_true] at hdr
  have ho := own13 (most := most) hs hn
  have hs' := mkS_SV (blks l)
  have he' := mkS_SV (evs xs)
  cases hf : fewB l.length with
  | false =>
    simp -dsimp -implicitDefEqProofs only [go_sem, C_P, C_deep, reduceCtorEq, Nat.reduceAdd, Nat.reduceLeDiff, Nat.reduceLT, Nat.reduceEqDiff, Nat.reduceMul, Nat.reduceSub, Nat.reducePow, Int.reduceToNat, Int.reduceLE, Int.reduceLT, Int.reduceEq, WCh_pure ho, WCh_pure (few12 (most := most) hs'), hf, awake]
  | true =>
    have hl := fewB_len hf
    have hch : l.length ≤ 8 ∨ chkS most l ≠ 0 := by
      unfold fewB at hf
      simp at hf
      rcases hf with hf | hf
      · exact .inl hf
      · exact .inr fun hc => by have := chkS_len hc; omega
    cases hg : fewEv xs.length with
    | false => simp -dsimp -implicitDefEqProofs only [go_sem, C_P, C_deep, reduceCtorEq, Nat.reduceAdd, Nat.reduceLeDiff, Nat.reduceLT, Nat.reduceEqDiff, Nat.reduceMul, Nat.reduceSub, Nat.reducePow, Int.reduceToNat, Int.reduceLE, Int.reduceLT, Int.reduceEq, WCh_pure ho, WCh_pure (few12 (most := most) hs'), hf, WCh_pure (evs39 he hxn), WCh_pure (few38 he'), hg, awake]
    | true =>
      have hxl : xs.length ≤ 8192 := by unfold fewEv at hg; simp at hg; omega
      simp -dsimp -implicitDefEqProofs only [go_sem, C_P, C_deep, reduceCtorEq, Nat.reduceAdd, Nat.reduceLeDiff, Nat.reduceLT, Nat.reduceEqDiff, Nat.reduceMul, Nat.reduceSub, Nat.reducePow, Int.reduceToNat, Int.reduceLE, Int.reduceLT, Int.reduceEq, WCh_pure ho, WCh_pure (few12 (most := most) hs'), hf, WCh_pure (evs39 he hxn), WCh_pure (few38 he'), hg]
      refine WCh_of (run40 hs hw hl he hx hxl) fun v H' d hh => ?_
      obtain ⟨⟨rv, hrv, rfl⟩, rfl, rfl⟩ := hh
      have hr1 := runR_len (most := most) (xs := xs) (l := l)
      simp -dsimp -implicitDefEqProofs only [go_sem, C_P, C_deep, reduceCtorEq, Nat.reduceAdd, Nat.reduceLeDiff, Nat.reduceLT, Nat.reduceEqDiff, Nat.reduceMul, Nat.reduceSub, Nat.reducePow, Int.reduceToNat, Int.reduceLE, Int.reduceLT, Int.reduceEq, hrv.cells, hrv.tup, WCh_pure ho, WCh_pure (evs39 he hxn)]
      refine WCh_of (run41 hs' hw hch he' hx hxl) fun v H' d hh => ?_
      obtain ⟨⟨rv', hrv', rfl⟩, rfl, rfl⟩ := hh
      simp -dsimp -implicitDefEqProofs only [go_sem, C_P, C_deep, reduceCtorEq, Nat.reduceAdd, Nat.reduceLeDiff, Nat.reduceLT, Nat.reduceEqDiff, Nat.reduceMul, Nat.reduceSub, Nat.reducePow, Int.reduceToNat, Int.reduceLE, Int.reduceLT, Int.reduceEq, hrv'.cells, hrv'.tup, ↓W_drawnL hdr, WCh_pure (own13 (most := sM (runR most l xs).1 most) hrv (by omega)), WCh_pure (same24 (m := sM (runR most l xs).1 most) (m' := sM (runR most l xs).1 most) (mkS_SV (blks (runR most l xs).2.2)) hrv' (by omega)), sameB_refl, awake]
end Go.Proofs.YtbcmiddffckgmaaDoor.Am
