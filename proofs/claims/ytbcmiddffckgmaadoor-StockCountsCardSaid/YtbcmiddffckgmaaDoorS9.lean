/- The reference's names of a stock, and its deviations. -/
import Derived.Test.YtbcmiddffckgmaaDoorS8
set_option linter.unusedVariables false
set_option linter.unusedSimpArgs false
set_option linter.unnecessarySimpa false
namespace Go.Proofs.YtbcmiddffckgmaaDoor.Am
open Go
def namedE (most : Int) (l : List Blk) (who : ByteArray) : Int := if chkS most l ≠ 0 then chkS most l else nameF who
set_option maxRecDepth 100000 in
theorem named47 {most sv l} {who : ByteArray} (hs : SV sv (blks l)) (hw : ∀ b ∈ l, b.who.size ≤ maxL) (hm : who.size ≤ maxL) : Pure C 47 [.agg [.int .i64 most, sv], .str who] (.int .i64 (namedE most l who)) := by
  intro H
  refine WC_own (fn := Tryd.f47) Tryd.func47 rfl rfl rfl (Or.inl rfl) ?_; simp only [Tryd.f47, List.replicate, List.length_cons, List.length_nil, Nat.reduceSub, Nat.reduceAdd, List.cons_append, List.nil_append]
  simp -dsimp -implicitDefEqProofs only [go_sem, C_P, C_deep, reduceCtorEq, Nat.reduceAdd, Nat.reduceLeDiff, Nat.reduceLT, Nat.reduceEqDiff, Nat.reduceMul, Nat.reduceSub, Nat.reducePow, Int.reduceToNat, Int.reduceLE, Int.reduceLT, Int.reduceEq, WCh_pure (chk20 hs hw)]
  unfold namedE
  refine Br_intro (fun h => ?_) (fun h => ?_)
  · simp -dsimp -implicitDefEqProofs only [go_sem, C_P, C_deep, reduceCtorEq, Nat.reduceAdd, Nat.reduceLeDiff, Nat.reduceLT, Nat.reduceEqDiff, Nat.reduceMul, Nat.reduceSub, Nat.reducePow, Int.reduceToNat, Int.reduceLE, Int.reduceLT, Int.reduceEq]
    rw [if_pos (by simpa using h)]
  · rw [if_neg (by simpa using h)]
    simp -dsimp -implicitDefEqProofs only [go_sem, C_P, C_deep, reduceCtorEq, Nat.reduceAdd, Nat.reduceLeDiff, Nat.reduceLT, Nat.reduceEqDiff, Nat.reduceMul, Nat.reduceSub, Nat.reducePow, Int.reduceToNat, Int.reduceLE, Int.reduceLT, Int.reduceEq, WCh_pure (name34 who hm)]
def wearAt (l : List Blk) (i : Nat) : Int := match l[i]? with
  | some b => b.wear
  | none => 0
def sumW (l : List Blk) (idx : List Nat) : Int := idx.foldl (fun a i => IntKind.i64.wrap (a + wearAt l i)) 0
theorem sumW_snoc (l : List Blk) (idx : List Nat) (n : Nat) : sumW l (idx ++ [n]) = IntKind.i64.wrap (sumW l idx + wearAt l n) := by simp [sumW, List.foldl_append]
def devRes (most : Int) (l : List Blk) (who : ByteArray) : PV :=
  if namedE most l who ≠ 0 then .tup [.int .i64 0, .int .i64 (namedE most l who)]
  else if (whr (heldP who) l l.length).length = 0 then .tup [.int .i64 0, .int .i64 6]
  else .tup [.int .i64 (sumW l (whr (heldP who) l l.length)), .int .i64 0]
theorem namedE_chk {most l who} (h : namedE most l who = 0) : chkS most l = 0 := by
  unfold namedE at h
  split at h
  · exact h
  · rename_i hh; simpa using hh
def I18 (l : List Blk) (most : Int) (sv : PV) (who : ByteArray) (idx : List Nat) (H : Heap) (j : Nat) (st : St) : Prop :=
  st = ⟨[.agg [.int .i64 most, sv], .str who, .ref H.length 0 0 0 2, gv st 3, .int .i64 0, .int .i64 0, gv st 6, mkS (nats idx), .int .i64 (sumW l (idx.take j)), .int .i64 j, gv st 10, gv st 11, gv st 12, gv st 13, gv st 14, gv st 15, gv st 16, gv st 17, gv st 18, gv st 19, gv st 20, gv st 21, gv st 22, gv st 23, gv st 24, gv st 25, gv st 26, gv st 27, gv st 28, gv st 29, gv st 30, gv st 31, gv st 32, gv st 33, gv st 34, gv st 35, gv st 36, gv st 37, gv st 38, gv st 39], [⟨[.int .i64 most, sv], 0, 0⟩] :: H, []⟩
set_option maxRecDepth 100000 in
theorem dev18 {most sv l} {who : ByteArray} (hs : SV sv (blks l)) (hw : ∀ b ∈ l, b.who.size ≤ maxL) (hm : who.size ≤ maxL) : Pure C 18 [.agg [.int .i64 most, sv], .str who] (devRes most l who) := by
  intro H
  refine WC_own (fn := Tryd.f18) Tryd.func18 rfl rfl rfl (Or.inl rfl) ?_; simp only [Tryd.f18, List.replicate, List.length_cons, List.length_nil, Nat.reduceSub, Nat.reduceAdd, List.cons_append, List.nil_append]
  have hdr := dr_18; simp only [drwF, Tryd.f18, drw, cond_true, cond_false, List.append_nil, List.nil_append, List.cons_append, List.map_cons, List.map_nil, List.cons.injEq, and_true] at hdr
  simp -dsimp -implicitDefEqProofs only [go_sem, C_P, C_deep, reduceCtorEq, Nat.reduceAdd, Nat.reduceLeDiff, Nat.reduceLT, Nat.reduceEqDiff, Nat.reduceMul, Nat.reduceSub, Nat.reducePow, Int.reduceToNat, Int.reduceLE, Int.reduceLT, Int.reduceEq, WCh_pure (named47 hs hw hm)]
  unfold devRes
  refine Br_intro (fun h => ?_) (fun h => ?_)
  · simp -dsimp -implicitDefEqProofs only [go_sem, C_P, C_deep, reduceCtorEq, Nat.reduceAdd, Nat.reduceLeDiff, Nat.reduceLT, Nat.reduceEqDiff, Nat.reduceMul, Nat.reduceSub, Nat.reducePow, Int.reduceToNat, Int.reduceLE, Int.reduceLT, Int.reduceEq]
    rw [if_pos (by simpa using h)]
  · have h0 : namedE most l who = 0 := by simpa using h
    have hn := chkS_len (namedE_chk h0)
    rw [if_neg (by simp [h0])]
    simp -dsimp -implicitDefEqProofs only [go_sem, C_P, C_deep, reduceCtorEq, Nat.reduceAdd, Nat.reduceLeDiff, Nat.reduceLT, Nat.reduceEqDiff, Nat.reduceMul, Nat.reduceSub, Nat.reducePow, Int.reduceToNat, Int.reduceLE, Int.reduceLT, Int.reduceEq, WCh_pure (held48 who hs (by omega))]
    generalize hx : whr (heldP who) l l.length = idx
    have hmem : ∀ i ∈ idx, i < l.length := fun i hi => (whr_mem (hx ▸ hi)).1
    have hil : idx.length ≤ 256 := by rw [← hx]; exact Nat.le_trans (whr_len _ _ _) hn
    have hln := len_SV sl_31 (mkS_SV (nats idx))
    rw [nats_len] at hln
    simp -dsimp -implicitDefEqProofs only [go_sem, C_P, C_deep, reduceCtorEq, Nat.reduceAdd, Nat.reduceLeDiff, Nat.reduceLT, Nat.reduceEqDiff, Nat.reduceMul, Nat.reduceSub, Nat.reducePow, Int.reduceToNat, Int.reduceLE, Int.reduceLT, Int.reduceEq, hln]
    refine Br_intro (fun h => ?_) (fun h => ?_)
    · simp -dsimp -implicitDefEqProofs only [go_sem, C_P, C_deep, reduceCtorEq, Nat.reduceAdd, Nat.reduceLeDiff, Nat.reduceLT, Nat.reduceEqDiff, Nat.reduceMul, Nat.reduceSub, Nat.reducePow, Int.reduceToNat, Int.reduceLE, Int.reduceLT, Int.reduceEq]
      rw [if_pos (by simp at h; simpa using h)]
    · rw [if_neg (by simp at h; simpa using h)]
      simp -dsimp -implicitDefEqProofs only [go_sem, C_P, C_deep, reduceCtorEq, Nat.reduceAdd, Nat.reduceLeDiff, Nat.reduceLT, Nat.reduceEqDiff, Nat.reduceMul, Nat.reduceSub, Nat.reducePow, Int.reduceToNat, Int.reduceLE, Int.reduceLT, Int.reduceEq]
      refine WL_for idx.length (I18 l most sv who idx H) rfl ?_ ?_
      · rintro j st hj hst
        rw [I18] at hst
        rw [hst]
        generalize gv st = x
        have hd : decide ((j : Int) < idx.length) = true := by simp; omega
        obtain ⟨n, hnj⟩ : ∃ n, idx[j]? = some n := ⟨_, List.getElem?_eq_getElem hj⟩
        have hnl := hmem n (List.mem_of_getElem? hnj)
        obtain ⟨b, hb⟩ : ∃ b, l[n]? = some b := ⟨_, List.getElem?_eq_getElem hnl⟩
        have hbc : (blks l)[n]? = some [.int .i64 b.len, .int .i64 b.wear, .int .i64 b.uses, .str b.who] := blks_get hb
        have hsum : IntKind.i64.wrap (sumW l (idx.take j) + b.wear) = sumW l (idx.take (j + 1)) := by
          rw [← take_snoc hnj, sumW_snoc]; unfold wearAt; rw [hb]
        simp -dsimp -implicitDefEqProofs only [go_sem, C_P, C_deep, reduceCtorEq, Nat.reduceAdd, Nat.reduceLeDiff, Nat.reduceLT, Nat.reduceEqDiff, Nat.reduceMul, Nat.reduceSub, Nat.reducePow, Int.reduceToNat, Int.reduceLE, Int.reduceLT, Int.reduceEq, hln, hd, ↓W_drawnL hdr, index_SV (k := .i64) sl_31 (mkS_SV (nats idx)) (nats_get hnj) rfl, index_SV (k := .i64) sl_26 hs hbc rfl, hsum, wrap_succ (show j < 9223372036854775807 by omega)]
        exact rfl
      · rintro st hst
        rw [I18] at hst
        rw [hst]
        generalize gv st = x
        simp -dsimp -implicitDefEqProofs only [go_sem, C_P, C_deep, reduceCtorEq, Nat.reduceAdd, Nat.reduceLeDiff, Nat.reduceLT, Nat.reduceEqDiff, Nat.reduceMul, Nat.reduceSub, Nat.reducePow, Int.reduceToNat, Int.reduceLE, Int.reduceLT, Int.reduceEq, hln, List.take_length]
end Go.Proofs.YtbcmiddffckgmaaDoor.Am
