/- The run of StockHolds. -/
import Derived.Test.YtbcmiddffckgmaaDoorRunReturns
set_option linter.unusedVariables false
set_option linter.unusedSimpArgs false
set_option linter.unnecessarySimpa false
namespace Go.Proofs.YtbcmiddffckgmaaDoor.Am
open Go
def I7 (l N : List Blk) (most : Int) (sv : PV) (who : ByteArray) (n : Int) (O : List Nat) (i : Nat) (st : St) : Prop :=
  ∃ (g : List AObj), st = ⟨[.agg [.int .i64 most, sv], .str who, .int .i64 n, .ref 0 0 0 0 2, gv st 4, gv st 5, .bool false, mkS (nats (frees most l)), .int .i64 0, gv st 9, mkS (nats O), .int .i64 0, .int .i64 (totW (lens l) (takenTo O i)), gv st 13, gv st 14, gv st 15, gv st 16, gv st 17, gv st 18, gv st 19, gv st 20, gv st 21, gv st 22, gv st 23, gv st 24, gv st 25, gv st 26, gv st 27, gv st 28, gv st 29, gv st 30, gv st 31, gv st 32, gv st 33, gv st 34, gv st 35, gv st 36, gv st 37, gv st 38, gv st 39, gv st 40, gv st 41, gv st 42, gv st 43, gv st 44, gv st 45, gv st 46, gv st 47, gv st 48, gv st 49, gv st 50, gv st 51, gv st 52, gv st 53, gv st 54, gv st 55, gv st 56, gv st 57, gv st 58, gv st 59, mkS (blks N), .int .i64 l.length, .int .i64 i, gv st 63, gv st 64, gv st 65, gv st 66, gv st 67, gv st 68, gv st 69, gv st 70, gv st 71, gv st 72, gv st 73, gv st 74, gv st 75, gv st 76, gv st 77, gv st 78, gv st 79, gv st 80, gv st 81, gv st 82, gv st 83, gv st 84, gv st 85, gv st 86, gv st 87, gv st 88, gv st 89, gv st 90, gv st 91, gv st 92, gv st 93, gv st 94, gv st 95, gv st 96, gv st 97, gv st 98, gv st 99, gv st 100, gv st 101, gv st 102, gv st 103, gv st 104, gv st 105, gv st 106, gv st 107, gv st 108, gv st 109, gv st 110, gv st 111, gv st 112, gv st 113, gv st 114, gv st 115, gv st 116, gv st 117, gv st 118, gv st 119, gv st 120, gv st 121, gv st 122, gv st 123, gv st 124, gv st 125, gv st 126, gv st 127, gv st 128, gv st 129, gv st 130, gv st 131, gv st 132, gv st 133, gv st 134, gv st 135, gv st 136, gv st 137, gv st 138, gv st 139, gv st 140, gv st 141], [⟨[.int .i64 most, sv], 0, 0⟩ :: g], []⟩
def I7b (l : List Blk) (most : Int) (sv : PV) (who : ByteArray) (n : Int) (O : List Nat) (F : List AObj) (i : Nat) (st : St) : Prop :=
  ∃ (g : List AObj) (av : PV), Acc 1 0 F.length g av (ints (((frees most l).take i).map (lenAt l))) ∧
   st = ⟨[.agg [.int .i64 most, sv], .str who, .int .i64 n, .ref 0 0 0 0 2, gv st 4, gv st 5, .bool false, mkS (nats (frees most l)), .int .i64 0, gv st 9, mkS (nats O), .int .i64 0, .int .i64 n, gv st 13, gv st 14, gv st 15, av, gv st 17, gv st 18, gv st 19, gv st 20, gv st 21, gv st 22, gv st 23, gv st 24, gv st 25, gv st 26, gv st 27, gv st 28, gv st 29, gv st 30, gv st 31, gv st 32, gv st 33, gv st 34, gv st 35, gv st 36, gv st 37, gv st 38, gv st 39, gv st 40, gv st 41, gv st 42, gv st 43, gv st 44, gv st 45, gv st 46, gv st 47, gv st 48, gv st 49, gv st 50, gv st 51, gv st 52, gv st 53, gv st 54, gv st 55, gv st 56, gv st 57, gv st 58, gv st 59, gv st 60, gv st 61, gv st 62, gv st 63, gv st 64, gv st 65, gv st 66, gv st 67, gv st 68, gv st 69, gv st 70, gv st 71, gv st 72, gv st 73, gv st 74, gv st 75, gv st 76, gv st 77, gv st 78, gv st 79, gv st 80, gv st 81, gv st 82, gv st 83, gv st 84, gv st 85, gv st 86, gv st 87, gv st 88, gv st 89, gv st 90, gv st 91, gv st 92, gv st 93, mkS (nats (frees most l)), .int .i64 (frees most l).length, .int .i64 i, gv st 97, gv st 98, gv st 99, gv st 100, gv st 101, gv st 102, gv st 103, gv st 104, gv st 105, gv st 106, gv st 107, gv st 108, gv st 109, gv st 110, gv st 111, gv st 112, gv st 113, gv st 114, gv st 115, gv st 116, gv st 117, gv st 118, gv st 119, gv st 120, gv st 121, gv st 122, gv st 123, gv st 124, gv st 125, gv st 126, gv st 127, gv st 128, gv st 129, gv st 130, gv st 131, gv st 132, gv st 133, gv st 134, gv st 135, gv st 136, gv st 137, gv st 138, gv st 139, gv st 140, gv st 141], [F ++ g], []⟩
set_option maxHeartbeats 2000000 in
set_option maxRecDepth 100000 in
theorem stockHolds_run {most : Int} {sv : PV} {l : List Blk} {who : ByteArray} {n : Int} (hs : SV sv (blks l)) (hw : ∀ b ∈ l, b.who.size ≤ maxL) (hn : l.length * 40 ≤ 140737488355328) (hm : who.size ≤ maxL) :
    WC C 7 [.agg [.int .i64 most, sv], .str who, .int .i64 n] [] fun v _ _ => v = .bool true := by
  refine WC_own (fn := Tryd.f7) Tryd.func7 rfl rfl rfl (Or.inl rfl) ?_; simp only [Tryd.f7, List.replicate, List.length_cons, List.length_nil, Nat.reduceSub, Nat.reduceAdd, List.cons_append, List.nil_append]
  have hr := right33 (most := most) hs hw hn
  cases hf : rightB most l with
  | false => simp -dsimp -implicitDefEqProofs only [go_sem, C_P, C_deep, reduceCtorEq, Nat.reduceAdd, Nat.reduceLeDiff, Nat.reduceLT, Nat.reduceEqDiff, Nat.reduceMul, Nat.reduceSub, Nat.reducePow, Int.reduceToNat, Int.reduceLE, Int.reduceLT, Int.reduceEq, WCh_pure hr, hf, awake]
  | true =>
    have hl8 : l.length ≤ 8 := by unfold rightB at hf; simp at hf; exact hf.1
    have hck : chkS most l = 0 := by unfold rightB at hf; simp at hf; exact hf.2
    have hp0 := free15 (most := most) hs hw (by omega)
    have hfr : freeRes most l = .tup [mkS (nats (frees most l)), .int .i64 0] := by unfold freeRes; rw [if_neg (by simp [hck])]; rfl
    rw [hfr] at hp0
    have hp1 := take25 (most := most) (n := n) hs hw hm (by omega)
    simp -dsimp -implicitDefEqProofs only [go_sem, C_P, C_deep, reduceCtorEq, Nat.reduceAdd, Nat.reduceLeDiff, Nat.reduceLT, Nat.reduceEqDiff, Nat.reduceMul, Nat.reduceSub, Nat.reducePow, Int.reduceToNat, Int.reduceLE, Int.reduceLT, Int.reduceEq, WCh_pure hr, hf, WCh_pure (name34 who hm)]
    refine Br_intro (fun h => ?_) (fun h => ?_)
    · simp -dsimp -implicitDefEqProofs only [go_sem, C_P, C_deep, reduceCtorEq, Nat.reduceAdd, Nat.reduceLeDiff, Nat.reduceLT, Nat.reduceEqDiff, Nat.reduceMul, Nat.reduceSub, Nat.reducePow, Int.reduceToNat, Int.reduceLE, Int.reduceLT, Int.reduceEq, h, awake]
    · by_cases ht : takeE most l who n = 0
      · have hT := took ht
        have hN := takeL_ok ht
        have hNl : (takeL most l who n).length = l.length := setIdx_len _ _ _
        have hNw := hN.who_
        have hp2 := chk19 (most := most) (mkS_SV (blks (takeL most l who n))) hNw
        rw [chkS_zero.2 hN] at hp2
        simp -dsimp -implicitDefEqProofs only [go_sem, C_P, C_deep, reduceCtorEq, Nat.reduceAdd, Nat.reduceLeDiff, Nat.reduceLT, Nat.reduceEqDiff, Nat.reduceMul, Nat.reduceSub, Nat.reducePow, Int.reduceToNat, Int.reduceLE, Int.reduceLT, Int.reduceEq, h, WCh_pure hp0, WCh_pure hp1, takeRes_ok ht, WCh_pure hp2, len_SV sl_22 (mkS_SV (blks (takeL most l who n))), len_SV sl_22 hs, blks_len, hNl, show ((0 : Int) != 0) = false from rfl, show ((l.length : Int) != l.length) = false by simp]
        refine WL_for l.length (I7 l (takeL most l who n) most sv who n (takeO most l n)) ⟨_, rfl⟩ ?_ ?_
        · rintro i st hi ⟨g, hst⟩
          rw [hst]
          generalize gv st = x
          have hd : decide ((i : Int) < l.length) = true := by simp; omega
          obtain ⟨b, hb⟩ : ∃ b, l[i]? = some b := ⟨_, List.getElem?_eq_getElem hi⟩
          obtain ⟨b1, hb1⟩ : ∃ b, (takeL most l who n)[i]? = some b := ⟨_, List.getElem?_eq_getElem (by omega)⟩
          have hbc : (blks l)[i]? = some [.int .i64 b.len, .int .i64 b.wear, .int .i64 b.uses, .str b.who] := blks_get hb
          have hbc1 : (blks (takeL most l who n))[i]? = some [.int .i64 b1.len, .int .i64 b1.wear, .int .i64 b1.uses, .str b1.who] := blks_get hb1
          have hv := index_SV (k := .i64) sl_22 hs hbc rfl
          have hv1 := index_SV (k := .i64) sl_22 (mkS_SV (blks (takeL most l who n))) hbc1 rfl
          have hct := contains35 (m := i) (mkS_SV (nats (takeO most l n))) (by have := hT.le; omega)
          have hcf := contains35 (m := i) (mkS_SV (nats (frees most l))) (by have := frees_len (most := most) (l := l); omega)
          have hget := takeL_get ht i
          rw [hb1, hb] at hget
          obtain ⟨hsu1, hsu2⟩ := totW_to (O := takeO most l n) hb
          by_cases hmem : i ∈ takeO most l n
          · rw [if_pos hmem] at hget
            have hb1e : b1 = withW who b := by simpa using hget
            have hwho := (free_blk (hT.free i hmem) hb).1
            have heq : Blk.eqb ⟨b1.len, b1.wear, b1.uses, ⟨#[]⟩⟩ ⟨b.len, b.wear, b.uses, b.who⟩ = true := by rw [hb1e, hwho]; exact Blk.eqb_refl _
            have hne : (b1.who.toList == who.toList) = true := by rw [hb1e]; simp [withW]
            simp -dsimp -implicitDefEqProofs only [go_sem, C_P, C_deep, reduceCtorEq, Nat.reduceAdd, Nat.reduceLeDiff, Nat.reduceLT, Nat.reduceEqDiff, Nat.reduceMul, Nat.reduceSub, Nat.reducePow, Int.reduceToNat, Int.reduceLE, Int.reduceLT, Int.reduceEq, hd, hv, hv1, WCh_pure hct, decide_eq_true hmem, neq66, heq, hne, WCh_pure hcf, decide_eq_true (hT.free i hmem), wrap_succ (show i < 9223372036854775807 by omega)]
            rw [show b1.len = b.len by rw [hb1e]; rfl, ← hsu1 hmem]
            exact ⟨_, rfl⟩
          · rw [if_neg hmem] at hget
            have hb1e : b1 = b := by simpa using hget
            subst hb1e
            simp -dsimp -implicitDefEqProofs only [go_sem, C_P, C_deep, reduceCtorEq, Nat.reduceAdd, Nat.reduceLeDiff, Nat.reduceLT, Nat.reduceEqDiff, Nat.reduceMul, Nat.reduceSub, Nat.reducePow, Int.reduceToNat, Int.reduceLE, Int.reduceLT, Int.reduceEq, hd, hv, hv1, WCh_pure hct, decide_eq_false hmem, neq66, Blk.eqb_refl, wrap_succ (show i < 9223372036854775807 by omega)]
            rw [← hsu2 hmem]
            exact ⟨_, rfl⟩
        · rintro st ⟨g, hst⟩
          rw [hst]
          generalize gv st = x
          have he : takenTo (takeO most l n) l.length = takeO most l n := filt_eq0 hT.sorted fun i hi => hT.lt hi
          have hlf := len_SV sl_31 (mkS_SV (nats (frees most l)))
          rw [nats_len] at hlf
          simp -dsimp -implicitDefEqProofs only [go_sem, C_P, C_deep, reduceCtorEq, Nat.reduceAdd, Nat.reduceLeDiff, Nat.reduceLT, Nat.reduceEqDiff, Nat.reduceMul, Nat.reduceSub, Nat.reducePow, Int.reduceToNat, Int.reduceLE, Int.reduceLT, Int.reduceEq, he, hlf, tot_sum ht hl8]
          have hTl := hT.le
          have hfl := frees_len (most := most) (l := l)
          clear hst st
          have hF0 : ((⟨[.int .i64 most, sv], 0, 0⟩ :: g : List AObj))[0]? = some ⟨[.int .i64 most, sv], 0, 0⟩ := rfl
          generalize ((⟨[.int .i64 most, sv], 0, 0⟩ :: g : List AObj)) = F at hF0 ⊢
          refine WL_for (frees most l).length (I7b l most sv who n (takeO most l n) F) ⟨[], .nils, Acc_nil, by rw [List.append_nil]; rfl⟩ ?_ ?_
          · rintro i st hi ⟨g', av, hA, hst⟩
            rw [hst]
            generalize gv st = x
            have hd : decide ((i : Int) < (frees most l).length) = true := by simp; omega
            obtain ⟨k, hk⟩ : ∃ k, (frees most l)[i]? = some k := ⟨_, List.getElem?_eq_getElem hi⟩
            have hkl := frees_mem (List.mem_of_getElem? hk)
            obtain ⟨b, hb⟩ : ∃ b, l[k]? = some b := ⟨_, List.getElem?_eq_getElem hkl⟩
            have hbc : (blks l)[k]? = some [.int .i64 b.len, .int .i64 b.wear, .int .i64 b.uses, .str b.who] := blks_get hb
            have hv := index_SV (k := .i64) sl_22 hs hbc rfl
            have hqa : (F ++ g')[0]? = some ⟨[.int .i64 most, sv], 0, 0⟩ := by rw [List.getElem?_append_left (List.getElem?_eq_some_iff.1 hF0).1]; exact hF0
            have hk0 : decide ((k : Int) < 0) = false := by simp
            have hk1 : decide ((k : Int) ≥ l.length) = false := by simp; omega
            simp -dsimp -implicitDefEqProofs only [go_sem, C_P, C_deep, reduceCtorEq, Nat.reduceAdd, Nat.reduceLeDiff, Nat.reduceLT, Nat.reduceEqDiff, Nat.reduceMul, Nat.reduceSub, Nat.reducePow, Int.reduceToNat, Int.reduceLE, Int.reduceLT, Int.reduceEq, hd, index_SV (k := .i64) sl_31 (mkS_SV (nats (frees most l))) (nats_get hk) rfl, hk0, hk1, hqa, hv, len_SV sl_22 hs, blks_len]
            have hsn : ((frees most l).take i).map (lenAt l) ++ [b.len] = ((frees most l).take (i + 1)).map (lenAt l) := by rw [← take_snoc hk, List.map_append]; simp [lenAt_of hb]
            refine WXh_acc sl_31 hA rfl F [_] rfl 0 (by omega) rfl rfl (by decide) (room_ok (m := 512) (by decide) (by rw [ints_len, List.length_map, List.length_take]; omega) (by decide)) ?_
            rw [ints_snoc, hsn]
            intro av' g' wr hA' hwr
            simp -dsimp -implicitDefEqProofs only [go_sem, C_P, C_deep, reduceCtorEq, Nat.reduceAdd, Nat.reduceLeDiff, Nat.reduceLT, Nat.reduceEqDiff, Nat.reduceMul, Nat.reduceSub, Nat.reducePow, Int.reduceToNat, Int.reduceLE, Int.reduceLT, Int.reduceEq, addWs_own hwr, wrap_succ (show i < 9223372036854775807 by omega), hA'.cells, hA'.tup]
            exact ⟨g', av', hA', rfl⟩
          · rintro st ⟨g', av, hA, hst⟩
            rw [hst]
            generalize gv st = x
            have hd : decide (((frees most l).length : Int) < (frees most l).length) = false := by simp
            rw [List.take_length] at hA
            have hRV : RV ((F ++ g') :: []) av (freeS most l) := RV.acc hA rfl rfl
            have htl : (takeO most l n).length = (fewL (freeS most l) n).length := by unfold takeO; simp
            have hls := len_SV sl_31 (mkS_SV (nats (fewL (freeS most l) n)))
            have hlo := len_SV sl_31 (mkS_SV (nats (takeO most l n)))
            rw [nats_len] at hls hlo
            simp -dsimp -implicitDefEqProofs only [go_sem, C_P, C_deep, reduceCtorEq, Nat.reduceAdd, Nat.reduceLeDiff, Nat.reduceLT, Nat.reduceEqDiff, Nat.reduceMul, Nat.reduceSub, Nat.reducePow, Int.reduceToNat, Int.reduceLE, Int.reduceLT, Int.reduceEq, hd, Fewest36 hRV ⟨hA.cells, hA.tup⟩, fewRes_eq, (takeE_zero ht).2.2.2, hls, hlo, htl, awake]
      · simp -dsimp -implicitDefEqProofs only [go_sem, C_P, C_deep, reduceCtorEq, Nat.reduceAdd, Nat.reduceLeDiff, Nat.reduceLT, Nat.reduceEqDiff, Nat.reduceMul, Nat.reduceSub, Nat.reducePow, Int.reduceToNat, Int.reduceLE, Int.reduceLT, Int.reduceEq, h, WCh_pure hp0, WCh_pure hp1, takeRes_bad ht, show (takeE most l who n != 0) = true by simpa using ht, show ((0 : Int) != 0) = false from rfl, awake]
end Go.Proofs.YtbcmiddffckgmaaDoor.Am
