/- The run of StockTakes. -/
import Derived.Test.YtbcmiddffckgmaaDoorJ2
import Derived.Test.YtbcmiddffckgmaaDoorRunCal
set_option linter.unusedVariables false
set_option linter.unusedSimpArgs false
set_option linter.unnecessarySimpa false
namespace Go.Proofs.YtbcmiddffckgmaaDoor.Am
open Go
theorem takeL_len (most : Int) (l : List Blk) (who : ByteArray) (n : Int) : (takeL most l who n).length = l.length := setIdx_len _ _ _
theorem takeO_len (most : Int) (l : List Blk) (n : Int) : (takeO most l n).length ≤ l.length := by
  unfold takeO
  rw [List.length_map]
  exact Nat.le_trans fewL_len (by rw [freeS_len]; exact frees_len)
theorem takeRes_ex (most : Int) (l : List Blk) (who : ByteArray) (n : Int) : ∃ (m : Int) (bl : List Blk) (sv : PV) (x : List Nat) (e : Int), takeRes most l who n = .tup [.agg [.int .i64 m, mkS (blks bl)], sv, .int .i64 e] ∧ SV sv (nats x) ∧ bl.length ≤ l.length ∧ x.length ≤ l.length := by
  unfold takeRes
  split
  · exact ⟨0, [], .nils, [], _, rfl, .inl ⟨rfl, rfl⟩, by simp, by simp⟩
  · exact ⟨most, takeL most l who n, _, takeO most l n, 0, rfl, mkS_SV _, by rw [takeL_len]; exact Nat.le_refl _, takeO_len _ _ _⟩
theorem retL_len (l : List Blk) (who : ByteArray) (w : Int) : (retL l who w).length ≤ l.length := by
  unfold retL
  cases h : retGo w l (heldI who l) with
  | none => simp
  | some l' => simp [retGo_len h]
theorem few_chk {most : Int} {l : List Blk} (h : fewB l.length = true) : l.length ≤ 8 ∨ chkS most l ≠ 0 := by
  unfold fewB at h
  simp at h
  rcases h with h | h
  · exact .inl h
  · exact .inr fun hc => by have := chkS_len hc; omega
set_option maxHeartbeats 2000000 in
set_option maxRecDepth 100000 in
theorem stockTakes_run {most : Int} {sv : PV} {l : List Blk} {who : ByteArray} {n : Int} (hs : SV sv (blks l)) (hw : ∀ b ∈ l, b.who.size ≤ maxL) (hn : l.length * 40 ≤ 140737488355328) (hm : who.size ≤ maxL) :
    WC C 5 [.agg [.int .i64 most, sv], .str who, .int .i64 n] [] fun v _ _ => v = .bool true := by
  refine WC_own (fn := Tryd.f5) Tryd.func5 rfl rfl rfl (Or.inl rfl) ?_; simp only [Tryd.f5, List.replicate, List.length_cons, List.length_nil, Nat.reduceSub, Nat.reduceAdd, List.cons_append, List.nil_append]
  have hdr := dr_5; simp only [drwF, Tryd.f5, drw, cond_true, cond_false, List.append_nil, List.nil_append, List.cons_append, List.map_cons, List.map_nil, List.cons.injEq, and_true] at hdr
  have ho := own13 (most := most) hs hn
  have hs' := mkS_SV (blks l)
  cases hf : fewB l.length with
  | false =>
    simp -dsimp -implicitDefEqProofs only [go_sem, C_P, C_deep, reduceCtorEq, Nat.reduceAdd, Nat.reduceLeDiff, Nat.reduceLT, Nat.reduceEqDiff, Nat.reduceMul, Nat.reduceSub, Nat.reducePow, Int.reduceToNat, Int.reduceLE, Int.reduceLT, Int.reduceEq, WCh_pure ho, WCh_pure (few12 (most := most) hs'), hf, awake]
  | true =>
    have hl := fewB_len hf
    obtain ⟨m1, b1, s1, x, e1, h1, hx, hl1, hxl⟩ := takeRes_ex most l who n
    obtain ⟨m2, b2, e2, h2, hl2⟩ := stkRes_ex (retE most l who n) most (retL l who n) (by have := retL_len l who n; omega)
    have hb1 := mkS_SV (blks b1)
    have hb2 := mkS_SV (blks b2)
    have hx' := hx
    rw [nats_ints] at hx'
    simp -dsimp -implicitDefEqProofs only [go_sem, C_P, C_deep, reduceCtorEq, Nat.reduceAdd, Nat.reduceLeDiff, Nat.reduceLT, Nat.reduceEqDiff, Nat.reduceMul, Nat.reduceSub, Nat.reducePow, Int.reduceToNat, Int.reduceLE, Int.reduceLT, Int.reduceEq, WCh_pure ho, WCh_pure (few12 (most := most) hs'), hf, lstr_9]
    refine Br_intro (fun h => ?_) (fun h => ?_)
    · simp -dsimp -implicitDefEqProofs only [go_sem, C_P, C_deep, reduceCtorEq, Nat.reduceAdd, Nat.reduceLeDiff, Nat.reduceLT, Nat.reduceEqDiff, Nat.reduceMul, Nat.reduceSub, Nat.reducePow, Int.reduceToNat, Int.reduceLE, Int.reduceLT, Int.reduceEq, awake]
    · simp -dsimp -implicitDefEqProofs only [go_sem, C_P, C_deep, reduceCtorEq, Nat.reduceAdd, Nat.reduceLeDiff, Nat.reduceLT, Nat.reduceEqDiff, Nat.reduceMul, Nat.reduceSub, Nat.reducePow, Int.reduceToNat, Int.reduceLE, Int.reduceLT, Int.reduceEq, WCh_pure ho, WCh_pure (take25 (most := most) (n := n) hs hw hm hl), WCh_pure (take26 (most := most) (n := n) hs' hw hm (few_chk hf)), WCh_pure (ret27 (most := most) (w := n) hs hw hm hl), WCh_pure (ret28 (most := most) (w := n) hs' hw hm),
        h1, h2, hb1.cells, hb1.tup, hb2.cells, hb2.tup, hx.cells, hx.tup, ↓W_drawnL hdr, WCh_pure (own13 (most := m1) hb1 (by omega)), WCh_pure (own13 (most := m2) hb2 (by omega)),
        WCh_pure (same24 (m := m1) (m' := m1) hb1 hb1 (by omega)), WCh_pure (same24 (m := m2) (m' := m2) hb2 hb2 (by omega)), WCh_pure (eql21 hx' hx' (by rw [List.length_map]; omega)), sameB_refl, awake]
end Go.Proofs.YtbcmiddffckgmaaDoor.Am
