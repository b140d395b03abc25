/- The run of StockCalibrates. -/
import Derived.Test.YtbcmiddffckgmaaDoorS15
import Derived.Test.YtbcmiddffckgmaaDoorRunChecks
set_option linter.unusedVariables false
set_option linter.unusedSimpArgs false
set_option linter.unnecessarySimpa false
namespace Go.Proofs.YtbcmiddffckgmaaDoor.Am
open Go
theorem stkRes_ex (e most : Int) (l : List Blk) (hn : l.length ≤ 512) : ∃ (m : Int) (bl : List Blk) (e' : Int), stkRes e most l = .tup [.agg [.int .i64 m, mkS (blks bl)], .int .i64 e'] ∧ bl.length ≤ 512 := by
  unfold stkRes
  split
  · exact ⟨0, [], e, rfl, by simp⟩
  · exact ⟨most, l, 0, rfl, hn⟩
set_option maxRecDepth 100000 in
theorem stockCalibrates_run {most : Int} {sv : PV} {l : List Blk} {n w : Int} (hs : SV sv (blks l)) (hw : ∀ b ∈ l, b.who.size ≤ maxL) (hn : l.length * 40 ≤ 140737488355328) :
    WC C 6 [.agg [.int .i64 most, sv], .int .i64 n, .int .i64 w] [] fun v _ _ => v = .bool true := by
  refine WC_own (fn := Tryd.f6) Tryd.func6 rfl rfl rfl (Or.inl rfl) ?_; simp only [Tryd.f6, List.replicate, List.length_cons, List.length_nil, Nat.reduceSub, Nat.reduceAdd, List.cons_append, List.nil_append]
  have hdr := dr_6; simp only [drwF, Tryd.f6, drw, cond_true, cond_false, List.append_nil, List.nil_append, List.cons_append, List.map_cons, List.map_nil, List.cons.injEq, and_true] at hdr
  have ho := own13 (most := most) hs hn
  have hs' := mkS_SV (blks l)
  cases hf : fewB l.length with
  | false =>
    simp -dsimp -implicitDefEqProofs only [go_sem, C_P, C_deep, reduceCtorEq, Nat.reduceAdd, Nat.reduceLeDiff, Nat.reduceLT, Nat.reduceEqDiff, Nat.reduceMul, Nat.reduceSub, Nat.reducePow, Int.reduceToNat, Int.reduceLE, Int.reduceLT, Int.reduceEq, WCh_pure ho, WCh_pure (few12 (most := most) hs'), hf, awake]
  | true =>
    have hl := fewB_len hf
    obtain ⟨m1, b1, e1, h1, hl1⟩ := stkRes_ex (calE most l n w) most (setAt l n fun b => { b with wear := w }) (by rw [setAt_len]; exact hl)
    obtain ⟨m2, b2, e2, h2, hl2⟩ := stkRes_ex (restE most l n) most (setAt l n fun _ => newB n) (by rw [setAt_len]; exact hl)
    have hb1 := mkS_SV (blks b1)
    have hb2 := mkS_SV (blks b2)
    simp -dsimp -implicitDefEqProofs only [go_sem, C_P, C_deep, reduceCtorEq, Nat.reduceAdd, Nat.reduceLeDiff, Nat.reduceLT, Nat.reduceEqDiff, Nat.reduceMul, Nat.reduceSub, Nat.reducePow, Int.reduceToNat, Int.reduceLE, Int.reduceLT, Int.reduceEq, WCh_pure ho, WCh_pure (few12 (most := most) hs'), hf, WCh_pure (cal29 (most := most) (n := n) (w := w) hs hw hl), WCh_pure (cal30 (most := most) (n := n) (w := w) hs' hw hl), WCh_pure (rep31 (most := most) (n := n) hs hw hl), WCh_pure (rep32 (most := most) (n := n) hs' hw hl),
      h1, h2, hb1.cells, hb1.tup, hb2.cells, hb2.tup, ↓W_drawnL hdr, WCh_pure (own13 (most := m1) hb1 (by omega)), WCh_pure (own13 (most := m2) hb2 (by omega)),
      WCh_pure (same24 (m := m1) (m' := m1) hb1 hb1 (by omega)), WCh_pure (same24 (m := m2) (m' := m2) hb2 hb2 (by omega)), sameB_refl, awake]
end Go.Proofs.YtbcmiddffckgmaaDoor.Am
