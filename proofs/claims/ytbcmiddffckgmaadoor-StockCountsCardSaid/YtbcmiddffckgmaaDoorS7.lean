/- The reference's check of a stock. -/
import Derived.Test.YtbcmiddffckgmaaDoorS6
set_option linter.unusedVariables false
set_option linter.unusedSimpArgs false
set_option linter.unnecessarySimpa false
namespace Go.Proofs.YtbcmiddffckgmaaDoor.Am
open Go
theorem nameF_letF {s : ByteArray} (h : s.size ≠ 0) : nameF s = letF s := by
  unfold nameF letF
  by_cases ha : allLow s = false
  · rw [if_pos ha, if_pos ha]
  · rw [if_neg ha, if_neg ha, if_neg h]
def I20 (l : List Blk) (most : Int) (sv : PV) (H : Heap) (i : Nat) (st : St) : Prop :=
  ∃ g : List AObj, chkB most l (l.length - i) i = chkB most l l.length 0 ∧
    st = ⟨[.agg [.int .i64 most, sv], .ref H.length 0 0 0 2, .int .i64 0, .int .i64 i, gv st 4, gv st 5, gv st 6, gv st 7, gv st 8, gv st 9, gv st 10, gv st 11, gv st 12, gv st 13, gv st 14, gv st 15, gv st 16, gv st 17, gv st 18, gv st 19, gv st 20, gv st 21, gv st 22, gv st 23, gv st 24, gv st 25, gv st 26, gv st 27, gv st 28, gv st 29, gv st 30, gv st 31, gv st 32, gv st 33, gv st 34, gv st 35, gv st 36, gv st 37, gv st 38, gv st 39, gv st 40, gv st 41, gv st 42, gv st 43, gv st 44, gv st 45, gv st 46, gv st 47, gv st 48, gv st 49, gv st 50, gv st 51, gv st 52, gv st 53, gv st 54, gv st 55, gv st 56, gv st 57, gv st 58, gv st 59, gv st 60, gv st 61, gv st 62, gv st 63, gv st 64, gv st 65, gv st 66, gv st 67, gv st 68, gv st 69, gv st 70, gv st 71, gv st 72, gv st 73], (⟨[.int .i64 most, sv], 0, 0⟩ :: g) :: H, []⟩
set_option maxRecDepth 100000 in
theorem chk20 {most sv l} (hs : SV sv (blks l)) (hw : ∀ b ∈ l, b.who.size ≤ maxL) : Pure C 20 [.agg [.int .i64 most, sv]] (.int .i64 (chkS most l)) := by
  intro H
  refine WC_own (fn := Tryd.f20) Tryd.func20 rfl rfl rfl (Or.inl rfl) ?_; simp only [Tryd.f20, List.replicate, List.length_cons, List.length_nil, Nat.reduceSub, Nat.reduceAdd, List.cons_append, List.nil_append]
  have hdr := dr_20; simp only [drwF, Tryd.f20, drw, cond_true, cond_false, List.append_nil, List.nil_append, List.cons_append, List.map_cons, List.map_nil, List.cons.injEq, and_true] at hdr
  simp -dsimp -implicitDefEqProofs only [go_sem, C_P, C_deep, reduceCtorEq, Nat.reduceAdd, Nat.reduceLeDiff, Nat.reduceLT, Nat.reduceEqDiff, Nat.reduceMul, Nat.reduceSub, Nat.reducePow, Int.reduceToNat, Int.reduceLE, Int.reduceLT, Int.reduceEq, WCh_pure (len51 _ _)]
  unfold chkS
  refine Br_intro (fun h => ?_) (fun h => ?_)
  · simp -dsimp -implicitDefEqProofs only [go_sem, C_P, C_deep, reduceCtorEq, Nat.reduceAdd, Nat.reduceLeDiff, Nat.reduceLT, Nat.reduceEqDiff, Nat.reduceMul, Nat.reduceSub, Nat.reducePow, Int.reduceToNat, Int.reduceLE, Int.reduceLT, Int.reduceEq]
    rw [if_pos (by simpa using h)]
  · rw [if_neg (by simpa using h)]
    simp -dsimp -implicitDefEqProofs only [go_sem, C_P, C_deep, reduceCtorEq, Nat.reduceAdd, Nat.reduceLeDiff, Nat.reduceLT, Nat.reduceEqDiff, Nat.reduceMul, Nat.reduceSub, Nat.reducePow, Int.reduceToNat, Int.reduceLE, Int.reduceLT, Int.reduceEq, len_SV sl_26 hs, blks_len]
    refine Br_intro (fun h => ?_) (fun h => ?_)
    · simp -dsimp -implicitDefEqProofs only [go_sem, C_P, C_deep, reduceCtorEq, Nat.reduceAdd, Nat.reduceLeDiff, Nat.reduceLT, Nat.reduceEqDiff, Nat.reduceMul, Nat.reduceSub, Nat.reducePow, Int.reduceToNat, Int.reduceLE, Int.reduceLT, Int.reduceEq]
      rw [if_pos (by have := of_decide_eq_true h; omega)]
    · have hn : l.length ≤ 256 := by have := of_decide_eq_false h; omega
      rw [if_neg (by omega)]
      simp -dsimp -implicitDefEqProofs only [go_sem, C_P, C_deep, reduceCtorEq, Nat.reduceAdd, Nat.reduceLeDiff, Nat.reduceLT, Nat.reduceEqDiff, Nat.reduceMul, Nat.reduceSub, Nat.reducePow, Int.reduceToNat, Int.reduceLE, Int.reduceLT, Int.reduceEq]
      refine WL_for l.length (I20 l most sv H) ⟨[], rfl, rfl⟩ ?_ ?_
      · rintro i st hi ⟨g, hR, hst⟩
        rw [hst]
        generalize gv st = x
        have hd : decide ((i : Int) < l.length) = true := by simp; omega
        have hk : l.length - i = (l.length - (i + 1)) + 1 := by omega
        obtain ⟨b, hb⟩ : ∃ b, l[i]? = some b := ⟨_, List.getElem?_eq_getElem hi⟩
        rw [hk] at hR
        obtain ⟨hR1, hR2⟩ := chkB_step hb hR
        have hbc : (blks l)[i]? = some [.int .i64 b.len, .int .i64 b.wear, .int .i64 b.uses, .str b.who] := blks_get hb
        have hv := index_SV (k := .i64) sl_26 hs hbc rfl
        have hln := len_SV sl_26 hs
        rw [blks_len] at hln
        cases h1 : inR_ b.len 1 100000 with
        | false =>
          have he : blkErr most (prevL l i) b = 2 := by unfold blkErr; rw [if_pos h1]
          rw [he] at hR1
          simp -dsimp -implicitDefEqProofs only [go_sem, C_P, C_deep, reduceCtorEq, Nat.reduceAdd, Nat.reduceLeDiff, Nat.reduceLT, Nat.reduceEqDiff, Nat.reduceMul, Nat.reduceSub, Nat.reducePow, Int.reduceToNat, Int.reduceLE, Int.reduceLT, Int.reduceEq, hd, hln, hv, WCh_pure (len51 _ _), h1, ← hR1 (by decide)]
        | true =>
        cases h2 : inR_ b.wear 0 100000 with
        | false =>
          have he : blkErr most (prevL l i) b = 2 := by unfold blkErr; rw [if_neg (by simp [h1]), if_pos h2]
          rw [he] at hR1
          simp -dsimp -implicitDefEqProofs only [go_sem, C_P, C_deep, reduceCtorEq, Nat.reduceAdd, Nat.reduceLeDiff, Nat.reduceLT, Nat.reduceEqDiff, Nat.reduceMul, Nat.reduceSub, Nat.reducePow, Int.reduceToNat, Int.reduceLE, Int.reduceLT, Int.reduceEq, hd, hln, hv, WCh_pure (len51 _ _), h1, h2, ← hR1 (by decide)]
        | true =>
        simp -dsimp -implicitDefEqProofs only [go_sem, C_P, C_deep, reduceCtorEq, Nat.reduceAdd, Nat.reduceLeDiff, Nat.reduceLT, Nat.reduceEqDiff, Nat.reduceMul, Nat.reduceSub, Nat.reducePow, Int.reduceToNat, Int.reduceLE, Int.reduceLT, Int.reduceEq, hd, hln, hv, WCh_pure (len51 _ _), h1, h2]
        refine Br_intro (fun h3a => ?_) (fun h3a => ?_)
        · have h3 : inR_ b.uses 0 1048576 = false := by rw [inR_false]; have := of_decide_eq_true h3a; omega
          have he : blkErr most (prevL l i) b = 2 := by unfold blkErr; rw [if_neg (by simp [h1]), if_neg (by simp [h2]), if_pos h3]
          rw [he] at hR1
          simp -dsimp -implicitDefEqProofs only [go_sem, C_P, C_deep, reduceCtorEq, Nat.reduceAdd, Nat.reduceLeDiff, Nat.reduceLT, Nat.reduceEqDiff, Nat.reduceMul, Nat.reduceSub, Nat.reducePow, Int.reduceToNat, Int.reduceLE, Int.reduceLT, Int.reduceEq, h3a, ← hR1 (by decide)]
        simp -dsimp -implicitDefEqProofs only [go_sem, C_P, C_deep, reduceCtorEq, Nat.reduceAdd, Nat.reduceLeDiff, Nat.reduceLT, Nat.reduceEqDiff, Nat.reduceMul, Nat.reduceSub, Nat.reducePow, Int.reduceToNat, Int.reduceLE, Int.reduceLT, Int.reduceEq, h3a]
        refine Br_intro (fun h3b => ?_) (fun h3b => ?_)
        · have h3 : inR_ b.uses 0 1048576 = false := by rw [inR_false]; have := of_decide_eq_true h3b; omega
          have he : blkErr most (prevL l i) b = 2 := by unfold blkErr; rw [if_neg (by simp [h1]), if_neg (by simp [h2]), if_pos h3]
          rw [he] at hR1
          simp -dsimp -implicitDefEqProofs only [go_sem, C_P, C_deep, reduceCtorEq, Nat.reduceAdd, Nat.reduceLeDiff, Nat.reduceLT, Nat.reduceEqDiff, Nat.reduceMul, Nat.reduceSub, Nat.reducePow, Int.reduceToNat, Int.reduceLE, Int.reduceLT, Int.reduceEq, h3b, ← hR1 (by decide)]
        have h3 : inR_ b.uses 0 1048576 = true := by
          rw [inR_true]; have := of_decide_eq_false h3a; have := of_decide_eq_false h3b; omega
        have hbm := hw b (List.mem_of_getElem? hb)
        have hname := name34 b.who hbm
        simp -dsimp -implicitDefEqProofs only [go_sem, C_P, C_deep, reduceCtorEq, Nat.reduceAdd, Nat.reduceLeDiff, Nat.reduceLT, Nat.reduceEqDiff, Nat.reduceMul, Nat.reduceSub, Nat.reducePow, Int.reduceToNat, Int.reduceLE, Int.reduceLT, Int.reduceEq, h3b, ↓W_drawnL hdr]
        refine Br_intro (fun h4 => ?_) (fun h4 => ?_)
        · have hi0 : 0 < i := by have := of_decide_eq_true h4; omega
          obtain ⟨q, hq⟩ : ∃ q, l[i - 1]? = some q := ⟨_, List.getElem?_eq_getElem (show i - 1 < l.length by omega)⟩
          have hqc : (blks l)[i - 1]? = some [.int .i64 q.len, .int .i64 q.wear, .int .i64 q.uses, .str q.who] := blks_get hq
          have hpl : prevL l i = some q.len := by unfold prevL; rw [if_pos hi0, hq]; rfl
          have hsub : IntKind.i64.wrap ((i : Int) - 1) = ((i - 1 : Nat) : Int) := by rw [wrap64 (by omega)]; omega
          simp -dsimp -implicitDefEqProofs only [go_sem, C_P, C_deep, reduceCtorEq, Nat.reduceAdd, Nat.reduceLeDiff, Nat.reduceLT, Nat.reduceEqDiff, Nat.reduceMul, Nat.reduceSub, Nat.reducePow, Int.reduceToNat, Int.reduceLE, Int.reduceLT, Int.reduceEq, h4, hsub, index_SV (k := .i64) sl_26 hs hqc rfl]
          refine Br_intro (fun h5 => ?_) (fun h5 => ?_)
          · have he : blkErr most (prevL l i) b = 9 := by
              unfold blkErr; rw [if_neg (by simp [h1]), if_neg (by simp [h2]), if_neg (by simp [h3]), if_pos (by rw [hpl]; exact h5)]
            rw [he] at hR1
            simp -dsimp -implicitDefEqProofs only [go_sem, C_P, C_deep, reduceCtorEq, Nat.reduceAdd, Nat.reduceLeDiff, Nat.reduceLT, Nat.reduceEqDiff, Nat.reduceMul, Nat.reduceSub, Nat.reducePow, Int.reduceToNat, Int.reduceLE, Int.reduceLT, Int.reduceEq, ← hR1 (by decide)]
          · have hge : geP (prevL l i) b.len = false := by rw [hpl]; exact h5
            simp -dsimp -implicitDefEqProofs only [go_sem, C_P, C_deep, reduceCtorEq, Nat.reduceAdd, Nat.reduceLeDiff, Nat.reduceLT, Nat.reduceEqDiff, Nat.reduceMul, Nat.reduceSub, Nat.reducePow, Int.reduceToNat, Int.reduceLE, Int.reduceLT, Int.reduceEq, str_empty]
            refine Br_intro (fun h5 => ?_) (fun h5 => ?_)
            · have hne : b.who.size ≠ 0 := by simpa using h5
              have hnl := nameF_letF hne
              simp -dsimp -implicitDefEqProofs only [go_sem, C_P, C_deep, reduceCtorEq, Nat.reduceAdd, Nat.reduceLeDiff, Nat.reduceLT, Nat.reduceEqDiff, Nat.reduceMul, Nat.reduceSub, Nat.reducePow, Int.reduceToNat, Int.reduceLE, Int.reduceLT, Int.reduceEq, WCh_pure hname, hnl]
              refine Br_intro (fun h6 => ?_) (fun h6 => ?_)
              · have h6' : letF b.who ≠ 0 := by simpa using h6
                have he : blkErr most (prevL l i) b = letF b.who := by
                  unfold blkErr; rw [if_neg (by simp [h1]), if_neg (by simp [h2]), if_neg (by simp [h3]), if_neg (by simp [hge]), if_pos h6']
                rw [he] at hR1
                simp -dsimp -implicitDefEqProofs only [go_sem, C_P, C_deep, reduceCtorEq, Nat.reduceAdd, Nat.reduceLeDiff, Nat.reduceLT, Nat.reduceEqDiff, Nat.reduceMul, Nat.reduceSub, Nat.reducePow, Int.reduceToNat, Int.reduceLE, Int.reduceLT, Int.reduceEq, hR1 h6']
              · have h6' : letF b.who = 0 := by simpa using h6
                have hb0 : blkErr most (prevL l i) b = if b.wear > most ∧ b.who.size ≠ 0 then 14 else 0 := by
                  unfold blkErr; rw [if_neg (by simp [h1]), if_neg (by simp [h2]), if_neg (by simp [h3]), if_neg (by simp [hge]), if_neg (by simp [h6'])]
                simp -dsimp -implicitDefEqProofs only [go_sem, C_P, C_deep, reduceCtorEq, Nat.reduceAdd, Nat.reduceLeDiff, Nat.reduceLT, Nat.reduceEqDiff, Nat.reduceMul, Nat.reduceSub, Nat.reducePow, Int.reduceToNat, Int.reduceLE, Int.reduceLT, Int.reduceEq]
                refine Br_intro (fun h7 => ?_) (fun h7 => ?_)
                · have he : blkErr most (prevL l i) b = 14 := by rw [hb0, if_pos ⟨of_decide_eq_true h7, hne⟩]
                  rw [he] at hR1
                  simp -dsimp -implicitDefEqProofs only [go_sem, C_P, C_deep, reduceCtorEq, Nat.reduceAdd, Nat.reduceLeDiff, Nat.reduceLT, Nat.reduceEqDiff, Nat.reduceMul, Nat.reduceSub, Nat.reducePow, Int.reduceToNat, Int.reduceLE, Int.reduceLT, Int.reduceEq, ← hR1 (by decide)]
                · have he : blkErr most (prevL l i) b = 0 := by rw [hb0, if_neg (fun hh => of_decide_eq_false h7 hh.1)]
                  simp -dsimp -implicitDefEqProofs only [go_sem, C_P, C_deep, reduceCtorEq, Nat.reduceAdd, Nat.reduceLeDiff, Nat.reduceLT, Nat.reduceEqDiff, Nat.reduceMul, Nat.reduceSub, Nat.reducePow, Int.reduceToNat, Int.reduceLE, Int.reduceLT, Int.reduceEq, wrap_succ (show i < 9223372036854775807 by omega)]
                  exact ⟨_, hR2 he, rfl⟩
            · have he0 : b.who.size = 0 := by simpa using h5
              have hl0 : letF b.who = 0 := by
                unfold letF; rw [if_neg (by rw [allLow_iff.2 (fun j hj => by omega)]; simp), if_neg (by omega)]
              have he : blkErr most (prevL l i) b = 0 := by
                unfold blkErr; rw [if_neg (by simp [h1]), if_neg (by simp [h2]), if_neg (by simp [h3]), if_neg (by simp [hge]), if_neg (by simp [hl0]), if_neg (fun hh => hh.2 he0)]
              simp -dsimp -implicitDefEqProofs only [go_sem, C_P, C_deep, reduceCtorEq, Nat.reduceAdd, Nat.reduceLeDiff, Nat.reduceLT, Nat.reduceEqDiff, Nat.reduceMul, Nat.reduceSub, Nat.reducePow, Int.reduceToNat, Int.reduceLE, Int.reduceLT, Int.reduceEq, wrap_succ (show i < 9223372036854775807 by omega)]
              exact ⟨_, hR2 he, rfl⟩
        · have hge : geP (prevL l i) b.len = false := by
            unfold prevL; rw [if_neg (by have := of_decide_eq_false h4; omega)]; rfl
          simp -dsimp -implicitDefEqProofs only [go_sem, C_P, C_deep, reduceCtorEq, Nat.reduceAdd, Nat.reduceLeDiff, Nat.reduceLT, Nat.reduceEqDiff, Nat.reduceMul, Nat.reduceSub, Nat.reducePow, Int.reduceToNat, Int.reduceLE, Int.reduceLT, Int.reduceEq, h4]
          simp -dsimp -implicitDefEqProofs only [go_sem, C_P, C_deep, reduceCtorEq, Nat.reduceAdd, Nat.reduceLeDiff, Nat.reduceLT, Nat.reduceEqDiff, Nat.reduceMul, Nat.reduceSub, Nat.reducePow, Int.reduceToNat, Int.reduceLE, Int.reduceLT, Int.reduceEq, str_empty]
          refine Br_intro (fun h5 => ?_) (fun h5 => ?_)
          · have hne : b.who.size ≠ 0 := by simpa using h5
            have hnl := nameF_letF hne
            simp -dsimp -implicitDefEqProofs only [go_sem, C_P, C_deep, reduceCtorEq, Nat.reduceAdd, Nat.reduceLeDiff, Nat.reduceLT, Nat.reduceEqDiff, Nat.reduceMul, Nat.reduceSub, Nat.reducePow, Int.reduceToNat, Int.reduceLE, Int.reduceLT, Int.reduceEq, WCh_pure hname, hnl]
            refine Br_intro (fun h6 => ?_) (fun h6 => ?_)
            · have h6' : letF b.who ≠ 0 := by simpa using h6
              have he : blkErr most (prevL l i) b = letF b.who := by
                unfold blkErr; rw [if_neg (by simp [h1]), if_neg (by simp [h2]), if_neg (by simp [h3]), if_neg (by simp [hge]), if_pos h6']
              rw [he] at hR1
              simp -dsimp -implicitDefEqProofs only [go_sem, C_P, C_deep, reduceCtorEq, Nat.reduceAdd, Nat.reduceLeDiff, Nat.reduceLT, Nat.reduceEqDiff, Nat.reduceMul, Nat.reduceSub, Nat.reducePow, Int.reduceToNat, Int.reduceLE, Int.reduceLT, Int.reduceEq, hR1 h6']
            · have h6' : letF b.who = 0 := by simpa using h6
              have hb0 : blkErr most (prevL l i) b = if b.wear > most ∧ b.who.size ≠ 0 then 14 else 0 := by
                unfold blkErr; rw [if_neg (by simp [h1]), if_neg (by simp [h2]), if_neg (by simp [h3]), if_neg (by simp [hge]), if_neg (by simp [h6'])]
              simp -dsimp -implicitDefEqProofs only [go_sem, C_P, C_deep, reduceCtorEq, Nat.reduceAdd, Nat.reduceLeDiff, Nat.reduceLT, Nat.reduceEqDiff, Nat.reduceMul, Nat.reduceSub, Nat.reducePow, Int.reduceToNat, Int.reduceLE, Int.reduceLT, Int.reduceEq]
              refine Br_intro (fun h7 => ?_) (fun h7 => ?_)
              · have he : blkErr most (prevL l i) b = 14 := by rw [hb0, if_pos ⟨of_decide_eq_true h7, hne⟩]
                rw [he] at hR1
                simp -dsimp -implicitDefEqProofs only [go_sem, C_P, C_deep, reduceCtorEq, Nat.reduceAdd, Nat.reduceLeDiff, Nat.reduceLT, Nat.reduceEqDiff, Nat.reduceMul, Nat.reduceSub, Nat.reducePow, Int.reduceToNat, Int.reduceLE, Int.reduceLT, Int.reduceEq, ← hR1 (by decide)]
              · have he : blkErr most (prevL l i) b = 0 := by rw [hb0, if_neg (fun hh => of_decide_eq_false h7 hh.1)]
                simp -dsimp -implicitDefEqProofs only [go_sem, C_P, C_deep, reduceCtorEq, Nat.reduceAdd, Nat.reduceLeDiff, Nat.reduceLT, Nat.reduceEqDiff, Nat.reduceMul, Nat.reduceSub, Nat.reducePow, Int.reduceToNat, Int.reduceLE, Int.reduceLT, Int.reduceEq, wrap_succ (show i < 9223372036854775807 by omega)]
                exact ⟨_, hR2 he, rfl⟩
          · have he0 : b.who.size = 0 := by simpa using h5
            have hl0 : letF b.who = 0 := by
              unfold letF; rw [if_neg (by rw [allLow_iff.2 (fun j hj => by omega)]; simp), if_neg (by omega)]
            have he : blkErr most (prevL l i) b = 0 := by
              unfold blkErr; rw [if_neg (by simp [h1]), if_neg (by simp [h2]), if_neg (by simp [h3]), if_neg (by simp [hge]), if_neg (by simp [hl0]), if_neg (fun hh => hh.2 he0)]
            simp -dsimp -implicitDefEqProofs only [go_sem, C_P, C_deep, reduceCtorEq, Nat.reduceAdd, Nat.reduceLeDiff, Nat.reduceLT, Nat.reduceEqDiff, Nat.reduceMul, Nat.reduceSub, Nat.reducePow, Int.reduceToNat, Int.reduceLE, Int.reduceLT, Int.reduceEq, wrap_succ (show i < 9223372036854775807 by omega)]
            exact ⟨_, hR2 he, rfl⟩
      · rintro st ⟨g, hR, hst⟩
        rw [hst]
        generalize gv st = x
        rw [Nat.sub_self, chkB] at hR
        have hln := len_SV sl_26 hs
        rw [blks_len] at hln
        simp -dsimp -implicitDefEqProofs only [go_sem, C_P, C_deep, reduceCtorEq, Nat.reduceAdd, Nat.reduceLeDiff, Nat.reduceLT, Nat.reduceEqDiff, Nat.reduceMul, Nat.reduceSub, Nat.reducePow, Int.reduceToNat, Int.reduceLE, Int.reduceLT, Int.reduceEq, hln, ← hR]
end Go.Proofs.YtbcmiddffckgmaaDoor.Am
