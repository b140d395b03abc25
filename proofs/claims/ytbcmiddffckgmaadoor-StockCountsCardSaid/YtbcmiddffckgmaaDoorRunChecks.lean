/- The run of StockChecks. -/
import Derived.Test.YtbcmiddffckgmaaDoorS4
import Derived.Test.YtbcmiddffckgmaaDoorS12
import Derived.Test.YtbcmiddffckgmaaDoorAwake
set_option linter.unusedVariables false
set_option linter.unusedSimpArgs false
set_option linter.unnecessarySimpa false
namespace Go.Proofs.YtbcmiddffckgmaaDoor.Am
open Go
theorem freeRes_ex (most : Int) (l : List Blk) : ∃ (sv : PV) (x : List Nat) (e : Int), freeRes most l = .tup [sv, .int .i64 e] ∧ SV sv (nats x) ∧ x.length ≤ l.length := by
  unfold freeRes
  split
  · exact ⟨.nils, [], _, rfl, .inl ⟨rfl, rfl⟩, by simp⟩
  · exact ⟨_, _, _, rfl, mkS_SV _, whr_len _ _ _⟩
theorem devRes_ex (most : Int) (l : List Blk) (who : ByteArray) : ∃ (n e : Int), devRes most l who = .tup [.int .i64 n, .int .i64 e] := by
  unfold devRes
  split
  · exact ⟨_, _, rfl⟩
  · split
    · exact ⟨_, _, rfl⟩
    · exact ⟨_, _, rfl⟩
def fewB (n : Nat) : Bool := decide (n ≤ 8) || decide (n > 256) && decide (n ≤ 512)
theorem fewB_len {n : Nat} (h : fewB n = true) : n ≤ 512 := by unfold fewB at h; simp at h; omega
theorem few12 {most : Int} {sv l} (hs : SV sv (blks l)) : Pure C 12 [.agg [.int .i64 most, sv]] (.bool (fewB l.length)) := by
  have := few (most := most) hs
  rw [blks_len] at this; exact this
theorem own13 {most : Int} {sv l} (hs : SV sv (blks l)) (hn : l.length * 40 ≤ 140737488355328) : Pure C 13 [.agg [.int .i64 most, sv]] (.agg [.int .i64 most, mkS (blks l)]) :=
  own hs (blks_four l) (by rw [blks_len]; exact hn) (blks_scal l)
set_option maxRecDepth 100000 in
theorem stockChecks_run {most : Int} {sv : PV} {l : List Blk} {who : ByteArray} (hs : SV sv (blks l)) (hw : ∀ b ∈ l, b.who.size ≤ maxL) (hn : l.length * 40 ≤ 140737488355328) (hm : who.size ≤ maxL) :
    WC C 3 [.agg [.int .i64 most, sv], .str who] [] fun v _ _ => v = .bool true := by
  refine WC_own (fn := Tryd.f3) Tryd.func3 rfl rfl rfl (Or.inl rfl) ?_; simp only [Tryd.f3, List.replicate, List.length_cons, List.length_nil, Nat.reduceSub, Nat.reduceAdd, List.cons_append, List.nil_append]
  have hdr := dr_3; simp only [drwF, Tryd.f3, drw, cond_true, cond_false, List.append_nil, List.nil_append, List.cons_append, List.map_cons, List.map_nil, List.cons.injEq, and_true] at hdr
  have ho := own13 (most := most) hs hn
  have hs' := mkS_SV (blks l)
  cases hf : fewB l.length with
  | false =>
    simp -dsimp -implicitDefEqProofs only [go_sem, C_P, C_deep, reduceCtorEq, Nat.reduceAdd, Nat.reduceLeDiff, Nat.reduceLT, Nat.reduceEqDiff, Nat.reduceMul, Nat.reduceSub, Nat.reducePow, Int.reduceToNat, Int.reduceLE, Int.reduceLT, Int.reduceEq, WCh_pure ho, WCh_pure (few12 (most := most) hs'), hf, awake]
  | true =>
    have hl := fewB_len hf
    obtain ⟨s1, x, e, h1, h2, h3⟩ := freeRes_ex most l
    obtain ⟨n, e', h4⟩ := devRes_ex most l who
    have h2' := h2
    rw [nats_ints] at h2'
    simp -dsimp -implicitDefEqProofs only [go_sem, C_P, C_deep, reduceCtorEq, Nat.reduceAdd, Nat.reduceLeDiff, Nat.reduceLT, Nat.reduceEqDiff, Nat.reduceMul, Nat.reduceSub, Nat.reducePow, Int.reduceToNat, Int.reduceLE, Int.reduceLT, Int.reduceEq, WCh_pure ho, WCh_pure (few12 (most := most) hs'), hf, lstr_9]
    refine Br_intro (fun h => ?_) (fun h => ?_)
    · simp -dsimp -implicitDefEqProofs only [go_sem, C_P, C_deep, reduceCtorEq, Nat.reduceAdd, Nat.reduceLeDiff, Nat.reduceLT, Nat.reduceEqDiff, Nat.reduceMul, Nat.reduceSub, Nat.reducePow, Int.reduceToNat, Int.reduceLE, Int.reduceLT, Int.reduceEq, awake]
    · simp -dsimp -implicitDefEqProofs only [go_sem, C_P, C_deep, reduceCtorEq, Nat.reduceAdd, Nat.reduceLeDiff, Nat.reduceLT, Nat.reduceEqDiff, Nat.reduceMul, Nat.reduceSub, Nat.reducePow, Int.reduceToNat, Int.reduceLE, Int.reduceLT, Int.reduceEq, WCh_pure ho, WCh_pure (free15 (most := most) hs hw hl), WCh_pure (free16 (most := most) hs' hw), WCh_pure (dev17 (most := most) hs hw hm hl), WCh_pure (dev18 (most := most) hs' hw hm), h1, h4, ↓W_drawnL hdr,
        WCh_pure (chk19 (most := most) hs hw), WCh_pure (chk20 (most := most) hs' hw), WCh_pure (eql21 h2' h2' (by rw [List.length_map]; omega)), awake]
end Go.Proofs.YtbcmiddffckgmaaDoor.Am
