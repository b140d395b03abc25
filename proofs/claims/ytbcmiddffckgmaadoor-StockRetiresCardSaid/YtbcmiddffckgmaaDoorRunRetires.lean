/- The run of StockRetires. -/
import Derived.Test.YtbcmiddffckgmaaDoorS30
import Derived.Test.YtbcmiddffckgmaaDoorP4
set_option linter.unusedVariables false
set_option linter.unusedSimpArgs false
set_option linter.unnecessarySimpa false
namespace Go.Proofs.YtbcmiddffckgmaaDoor.Am
open Go
def I9 (l N L : List Blk) (most : Int) (sv : PV) (who : ByteArray) (n : Int) (O : List Nat) (i : Nat) (st : St) : Prop :=
  st = ⟨[.agg [.int .i64 most, sv], .str who, .int .i64 n, .ref 0 0 0 0 2, gv st 4, gv st 5, .bool false, gv st 7, mkS (nats O), .int .i64 0, .ref 0 2 0 0 2, mkS (nats (frees most L)), .int .i64 0, gv st 13, gv st 14, gv st 15, gv st 16, gv st 17, gv st 18, gv st 19, gv st 20, gv st 21, gv st 22, gv st 23, gv st 24, gv st 25, gv st 26, gv st 27, gv st 28, gv st 29, gv st 30, gv st 31, gv st 32, gv st 33, gv st 34, gv st 35, gv st 36, gv st 37, gv st 38, gv st 39, gv st 40, gv st 41, gv st 42, gv st 43, gv st 44, gv st 45, gv st 46, gv st 47, gv st 48, gv st 49, gv st 50, gv st 51, gv st 52, gv st 53, gv st 54, gv st 55, gv st 56, gv st 57, gv st 58, gv st 59, gv st 60, gv st 61, gv st 62, mkS (nats O), .int .i64 O.length, .int .i64 i, gv st 66, gv st 67, gv st 68, gv st 69, gv st 70, gv st 71, gv st 72, gv st 73, gv st 74, gv st 75, gv st 76, gv st 77, gv st 78, gv st 79, gv st 80, gv st 81, gv st 82, gv st 83, gv st 84, gv st 85, gv st 86, gv st 87, gv st 88, gv st 89, gv st 90, gv st 91, gv st 92, gv st 93, gv st 94, gv st 95, gv st 96, gv st 97, gv st 98, gv st 99, gv st 100, gv st 101, gv st 102, gv st 103, gv st 104, gv st 105, gv st 106, gv st 107, gv st 108, gv st 109, gv st 110, gv st 111, gv st 112, gv st 113, gv st 114], [[⟨[.int .i64 most, sv], 0, 0⟩, ⟨[.int .i64 most, mkS (blks N)], 0, 0⟩, ⟨[.int .i64 most, mkS (blks (setIdx newOf L (O.take i)))], 0, 0⟩]], []⟩
set_option maxHeartbeats 2000000 in
set_option maxRecDepth 100000 in
theorem stockRetires_run {most : Int} {sv : PV} {l : List Blk} {who : ByteArray} {n : Int} (hs : SV sv (blks l)) (hw : ∀ b ∈ l, b.who.size ≤ maxL) (hn : l.length * 40 ≤ 140737488355328) (hm : who.size ≤ maxL) :
    WC C 9 [.agg [.int .i64 most, sv], .str who, .int .i64 n] [] fun v _ _ => v = .bool true := by
  refine WC_own (fn := Tryd.f9) Tryd.func9 rfl rfl rfl (Or.inl rfl) ?_; simp only [Tryd.f9, List.replicate, List.length_cons, List.length_nil, Nat.reduceSub, Nat.reduceAdd, List.cons_append, List.nil_append]
  have hdr := dr_9; simp only [drwF, Tryd.f9, drw, cond_true, cond_false, List.append_nil, List.nil_append, List.cons_append, List.map_cons, List.map_nil, List.cons.injEq, and_true] at hdr
  have hr := right33 (most := most) hs hw hn
  cases hf : rightB most l with
  | false => simp -dsimp -implicitDefEqProofs only [go_sem, C_P, C_deep, reduceCtorEq, Nat.reduceAdd, Nat.reduceLeDiff, Nat.reduceLT, Nat.reduceEqDiff, Nat.reduceMul, Nat.reduceSub, Nat.reducePow, Int.reduceToNat, Int.reduceLE, Int.reduceLT, Int.reduceEq, WCh_pure hr, hf, awake]
  | true =>
    have hl8 : l.length ≤ 8 := by unfold rightB at hf; simp at hf; exact hf.1
    simp -dsimp -implicitDefEqProofs only [go_sem, C_P, C_deep, reduceCtorEq, Nat.reduceAdd, Nat.reduceLeDiff, Nat.reduceLT, Nat.reduceEqDiff, Nat.reduceMul, Nat.reduceSub, Nat.reducePow, Int.reduceToNat, Int.reduceLE, Int.reduceLT, Int.reduceEq, WCh_pure hr, hf, WCh_pure (name34 who hm)]
    refine Br_intro (fun h => ?_) (fun h => ?_)
    · simp -dsimp -implicitDefEqProofs only [go_sem, C_P, C_deep, reduceCtorEq, Nat.reduceAdd, Nat.reduceLeDiff, Nat.reduceLT, Nat.reduceEqDiff, Nat.reduceMul, Nat.reduceSub, Nat.reducePow, Int.reduceToNat, Int.reduceLE, Int.reduceLT, Int.reduceEq, h, awake]
    · simp -dsimp -implicitDefEqProofs only [go_sem, C_P, C_deep, reduceCtorEq, Nat.reduceAdd, Nat.reduceLeDiff, Nat.reduceLT, Nat.reduceEqDiff, Nat.reduceMul, Nat.reduceSub, Nat.reducePow, Int.reduceToNat, Int.reduceLE, Int.reduceLT, Int.reduceEq, h]
      refine Br_intro (fun h2 => ?_) (fun h2 => ?_)
      · simp -dsimp -implicitDefEqProofs only [go_sem, C_P, C_deep, reduceCtorEq, Nat.reduceAdd, Nat.reduceLeDiff, Nat.reduceLT, Nat.reduceEqDiff, Nat.reduceMul, Nat.reduceSub, Nat.reducePow, Int.reduceToNat, Int.reduceLE, Int.reduceLT, Int.reduceEq, awake]
      · have hmo : most < 50000 := by have := of_decide_eq_false h2; omega
        have hp1 := take25 (most := most) (n := n) hs hw hm (by omega)
        by_cases ht : takeE most l who n = 0
        · have hT := took ht
          have hN := takeL_ok ht
          have hNl : (takeL most l who n).length = l.length := setIdx_len _ _ _
          have hNw := hN.who_
          have hm0 := hN.most_
          have hp3 := ret27 (most := most) (who := who) (w := most + 1) (mkS_SV (blks (takeL most l who n))) hNw hm (by omega)
          have hw1 : IntKind.i64.wrap (most + 1) = most + 1 := wrap64 (by omega)
          rcases ret_take (w := most + 1) ht (by omega) with hr11 | ⟨hr0, _, _⟩
          · rw [hr11, stkRes_bad (by decide)] at hp3
            simp -dsimp -implicitDefEqProofs only [go_sem, C_P, C_deep, reduceCtorEq, Nat.reduceAdd, Nat.reduceLeDiff, Nat.reduceLT, Nat.reduceEqDiff, Nat.reduceMul, Nat.reduceSub, Nat.reducePow, Int.reduceToNat, Int.reduceLE, Int.reduceLT, Int.reduceEq, h, WCh_pure hp1, takeRes_ok ht, hw1, WCh_pure hp3, show ((0 : Int) != 0) = false from rfl, awake]
          · obtain ⟨q1, q2, q3, q4, q5, q6, q7⟩ := retire ht hmo hr0 _ rfl
            rw [hr0, stkRes_ok] at hp3
            generalize retL (takeL most l who n) who (most + 1) = L at hp3 q1 q2 q3 q4 q5 q6 q7
            have hp4 := free15 (most := most) (mkS_SV (blks L)) q1.who_ (by omega)
            have hfr : freeRes most L = .tup [mkS (nats (frees most L)), .int .i64 0] := by unfold freeRes; rw [if_neg (by simp [chkS_zero.2 q1])]; rfl
            rw [hfr] at hp4
            have hlo := len_SV sl_31 (mkS_SV (nats (takeO most l n)))
            rw [nats_len] at hlo
            have hTl := hT.le
            have hfl := frees_len (most := most) (l := L)
            simp -dsimp -implicitDefEqProofs only [go_sem, C_P, C_deep, reduceCtorEq, Nat.reduceAdd, Nat.reduceLeDiff, Nat.reduceLT, Nat.reduceEqDiff, Nat.reduceMul, Nat.reduceSub, Nat.reducePow, Int.reduceToNat, Int.reduceLE, Int.reduceLT, Int.reduceEq, h, WCh_pure hp1, takeRes_ok ht, hw1, WCh_pure hp3, WCh_pure hp4, show ((0 : Int) != 0) = false from rfl, show ((0 : Int) == 11) = false from rfl, show (IntKind.i64.wrap (0 + 0) != 0) = false from rfl, hlo]
            refine WL_for (takeO most l n).length (I9 l (takeL most l who n) L most sv who n (takeO most l n)) rfl ?_ ?_
            · rintro i st hi hst
              rw [I9] at hst
              rw [hst]
              generalize gv st = x
              have hd : decide ((i : Int) < (takeO most l n).length) = true := by simp; omega
              obtain ⟨k, hk⟩ : ∃ k, (takeO most l n)[i]? = some k := ⟨_, List.getElem?_eq_getElem hi⟩
              obtain ⟨hkf, hkl⟩ := q4 k (List.mem_of_getElem? hk)
              obtain ⟨b, hb⟩ : ∃ b, l[k]? = some b := ⟨_, List.getElem?_eq_getElem hkl⟩
              have hbc : (blks l)[k]? = some [.int .i64 b.len, .int .i64 b.wear, .int .i64 b.uses, .str b.who] := blks_get hb
              have hv := index_SV (k := .i64) sl_22 hs hbc rfl
              have hk0 : decide ((k : Int) < 0) = false := by simp
              have hk1 : decide ((k : Int) ≥ l.length) = false := by simp; omega
              have hcf := contains35 (m := k) (mkS_SV (nats (frees most L))) (by omega)
              obtain ⟨r1, r2⟩ := q5 i k hk
              rw [lenAt_of hb] at r1 r2
              have hp5 := rep31 (most := most) (n := b.len) (mkS_SV (blks (setIdx newOf L ((takeO most l n).take i)))) (restE_zero r1).1.who_ (by rw [setIdx_len]; omega)
              rw [r1, stkRes_ok, r2] at hp5
              simp -dsimp -implicitDefEqProofs only [go_sem, C_P, C_deep, reduceCtorEq, Nat.reduceAdd, Nat.reduceLeDiff, Nat.reduceLT, Nat.reduceEqDiff, Nat.reduceMul, Nat.reduceSub, Nat.reducePow, Int.reduceToNat, Int.reduceLE, Int.reduceLT, Int.reduceEq, hd, index_SV (k := .i64) sl_31 (mkS_SV (nats (takeO most l n))) (nats_get hk) rfl, hk0, hk1, len_SV sl_22 hs, blks_len, WCh_pure hcf, decide_eq_false hkf, ↓W_drawnL hdr, hv, WCh_pure hp5, show ((0 : Int) != 0) = false from rfl, wrap_succ (show i < 9223372036854775807 by omega)]
              exact rfl
            · rintro st hst
              rw [I9] at hst
              rw [hst]
              generalize gv st = x
              have hd : decide (((takeO most l n).length : Int) < (takeO most l n).length) = false := by simp
              rw [List.take_length]
              have hp6 := take25 (most := most) (n := n) (mkS_SV (blks (setIdx newOf L (takeO most l n)))) (takeE_zero q6).1.who_ hm (by rw [setIdx_len]; omega)
              rw [takeRes_ok q6, q7] at hp6
              simp -dsimp -implicitDefEqProofs only [go_sem, C_P, C_deep, reduceCtorEq, Nat.reduceAdd, Nat.reduceLeDiff, Nat.reduceLT, Nat.reduceEqDiff, Nat.reduceMul, Nat.reduceSub, Nat.reducePow, Int.reduceToNat, Int.reduceLE, Int.reduceLT, Int.reduceEq, hd, WCh_pure hp6, WCh_pure (same37 (mkS_SV (nats (takeO most l n))) (mkS_SV (nats (takeO most l n))) (by omega)), awake]
        · simp -dsimp -implicitDefEqProofs only [go_sem, C_P, C_deep, reduceCtorEq, Nat.reduceAdd, Nat.reduceLeDiff, Nat.reduceLT, Nat.reduceEqDiff, Nat.reduceMul, Nat.reduceSub, Nat.reducePow, Int.reduceToNat, Int.reduceLE, Int.reduceLT, Int.reduceEq, h, WCh_pure hp1, takeRes_bad ht, show (takeE most l who n != 0) = true by simpa using ht, awake]
end Go.Proofs.YtbcmiddffckgmaaDoor.Am
