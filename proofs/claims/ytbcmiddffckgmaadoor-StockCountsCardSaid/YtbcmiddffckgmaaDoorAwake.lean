/- awake answers true: the abstract machine's runs of its calls, by the kernel. -/
import Derived.Test.YtbcmiddffckgmaaDoorAwA
import Derived.Test.YtbcmiddffckgmaaDoorAwB
set_option linter.unusedVariables false
set_option linter.unusedSimpArgs false
set_option linter.unnecessarySimpa false
namespace Go.Proofs.YtbcmiddffckgmaaDoor.Am
open Go
set_option maxRecDepth 100000 in
theorem awake (f : List AObj) {K t} : WCh C 14 [] [f] K t = K (.bool true) [f] [] := by
  suffices h : WC C 14 [] [f] fun v H' d => v = .bool true ∧ H' = [f] ∧ d = [] by
    obtain ⟨k, v, H', d, h, rfl, rfl, rfl⟩ := h; exact WCh_det h
  refine WC_own (fn := Tryd.f14) Tryd.func14 rfl rfl rfl (Or.inl rfl) ?_; simp only [Tryd.f14, List.replicate, List.length_cons, List.length_nil, Nat.reduceSub, Nat.reduceAdd, List.cons_append, List.nil_append]
  have w0 : IntKind.i64.wrap 0 = 0 := by decide
  simp -dsimp -implicitDefEqProofs only [go_sem, C_P, C_deep, reduceCtorEq, Nat.reduceAdd, Nat.reduceLeDiff, Nat.reduceLT, Nat.reduceEqDiff, Nat.reduceMul, Nat.reduceSub, Nat.reducePow, Int.reduceToNat, Int.reduceLE, Int.reduceLT, Int.reduceEq, w0, Int.add_zero, WCh_det (aw0 f), WCh_det (aw1 f), WCh_det (aw2 f), WCh_det (aw3 f), WCh_det (aw4 f), WCh_det (aw5 f), WCh_det (aw6 f), WCh_det (aw7 f), WCh_det (aw8 f), WCh_det (aw9 f), WCh_det (aw10 f), WCh_det (aw11 f)]
end Go.Proofs.YtbcmiddffckgmaaDoor.Am
