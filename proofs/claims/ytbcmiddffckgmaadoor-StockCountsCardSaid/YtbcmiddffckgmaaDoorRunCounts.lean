/- The run of StockCounts. -/
import Derived.Test.YtbcmiddffckgmaaDoorJ3
import Derived.Test.YtbcmiddffckgmaaDoorS30
import Derived.Test.YtbcmiddffckgmaaDoorBr3
set_option linter.unusedVariables false
set_option linter.unusedSimpArgs false
set_option linter.unnecessarySimpa false
namespace Go.Proofs.YtbcmiddffckgmaaDoor.Am
open Go
def I11 (l X : List Blk) (most : Int) (sv esv rv : PV) (i : Nat) (st : St) : Prop :=
  ∃ (g : List AObj), st = ⟨[.agg [.int .i64 most, sv], esv, .ref 0 0 0 0 2, gv st 3, .bool false, .ref 0 1 0 0 2, gv st 6, gv st 7, mkS (nats (frees most X)), gv st 9, .int .i64 ((whr (freeP most) X i).length : Nat), gv st 11, gv st 12, gv st 13, gv st 14, gv st 15, gv st 16, gv st 17, gv st 18, gv st 19, gv st 20, gv st 21, gv st 22, gv st 23, gv st 24, gv st 25, gv st 26, gv st 27, gv st 28, gv st 29, gv st 30, gv st 31, gv st 32, gv st 33, gv st 34, gv st 35, gv st 36, gv st 37, gv st 38, gv st 39, gv st 40, gv st 41, gv st 42, gv st 43, gv st 44, gv st 45, gv st 46, gv st 47, gv st 48, gv st 49, gv st 50, gv st 51, gv st 52, gv st 53, gv st 54, gv st 55, gv st 56, gv st 57, gv st 58, gv st 59, gv st 60, gv st 61, gv st 62, rv, .int .i64 l.length, .int .i64 i, gv st 66, gv st 67, gv st 68, gv st 69, gv st 70, gv st 71, gv st 72, gv st 73, gv st 74, gv st 75, gv st 76, gv st 77, gv st 78, gv st 79, gv st 80, gv st 81, gv st 82, gv st 83, gv st 84, gv st 85, gv st 86, gv st 87, gv st 88, gv st 89, gv st 90, gv st 91, gv st 92, gv st 93, gv st 94, gv st 95, gv st 96, gv st 97, gv st 98, gv st 99, gv st 100, gv st 101, gv st 102, gv st 103, gv st 104, gv st 105, gv st 106, gv st 107, gv st 108, gv st 109, gv st 110], [⟨[.int .i64 most, sv], 0, 0⟩ :: ⟨[.int .i64 most, rv], 0, 0⟩ :: g], []⟩
set_option maxHeartbeats 2000000 in
set_option maxRecDepth 100000 in
theorem stockCounts_run {most : Int} {sv esv : PV} {l : List Blk} {xs : List Ev} (hs : SV sv (blks l)) (hw : ∀ b ∈ l, b.who.size ≤ maxL) (hn : l.length * 40 ≤ 140737488355328)
    (he : SV esv (evs xs)) (hx : ∀ x ∈ xs, x.who.size ≤ maxL) :
    WC C 11 [.agg [.int .i64 most, sv], esv] [] fun v _ _ => v = .bool true := by
  refine WC_own (fn := Tryd.f11) Tryd.func11 rfl rfl rfl (Or.inl rfl) ?_; simp only [Tryd.f11, List.replicate, List.length_cons, List.length_nil, Nat.reduceSub, Nat.reduceAdd, List.cons_append, List.nil_append]
  have hdr := dr_11; simp only [drwF, Tryd.f11, drw, cond_true, cond_false, List.append_nil, List.nil_append, List.cons_append, List.map_cons, List.map_nil, List.cons.injEq, and_true] at hdr
  have hr := right33 (most := most) hs hw hn
  cases hf : rightB most l with
  | false => simp -dsimp -implicitDefEqProofs only [go_sem, C_P, C_deep, reduceCtorEq, Nat.reduceAdd, Nat.reduceLeDiff, Nat.reduceLT, Nat.reduceEqDiff, Nat.reduceMul, Nat.reduceSub, Nat.reducePow, Int.reduceToNat, Int.reduceLE, Int.reduceLT, Int.reduceEq, WCh_pure hr, hf, awake]
  | true =>
    have hl8 : l.length ≤ 8 := by unfold rightB at hf; simp at hf; exact hf.1
    have hck : chkS most l = 0 := by unfold rightB at hf; simp at hf; exact hf.2
    simp -dsimp -implicitDefEqProofs only [go_sem, C_P, C_deep, reduceCtorEq, Nat.reduceAdd, Nat.reduceLeDiff, Nat.reduceLT, Nat.reduceEqDiff, Nat.reduceMul, Nat.reduceSub, Nat.reducePow, Int.reduceToNat, Int.reduceLE, Int.reduceLT, Int.reduceEq, WCh_pure hr, hf, len_SV sl_69 he, evs_len]
    refine Br_intro (fun h => ?_) (fun h => ?_)
    · simp -dsimp -implicitDefEqProofs only [go_sem, C_P, C_deep, reduceCtorEq, Nat.reduceAdd, Nat.reduceLeDiff, Nat.reduceLT, Nat.reduceEqDiff, Nat.reduceMul, Nat.reduceSub, Nat.reducePow, Int.reduceToNat, Int.reduceLE, Int.reduceLT, Int.reduceEq, h, awake]
    · have hxl : xs.length ≤ 24 := by have := of_decide_eq_false h; omega
      have hE : runR most l xs = runE most l xs 0 := by unfold runR; rw [if_neg (by simp [hck]), if_neg (by omega)]
      simp -dsimp -implicitDefEqProofs only [go_sem, C_P, C_deep, reduceCtorEq, Nat.reduceAdd, Nat.reduceLeDiff, Nat.reduceLT, Nat.reduceEqDiff, Nat.reduceMul, Nat.reduceSub, Nat.reducePow, Int.reduceToNat, Int.reduceLE, Int.reduceLT, Int.reduceEq, h]
      refine WCh_of (run40 hs hw (by omega) he hx (by omega)) fun v H' d hh => ?_
      obtain ⟨⟨rv, hrv, rfl⟩, rfl, rfl⟩ := hh
      rw [hE] at hrv ⊢
      simp -dsimp -implicitDefEqProofs only [go_sem, C_P, C_deep, reduceCtorEq, Nat.reduceAdd, Nat.reduceLeDiff, Nat.reduceLT, Nat.reduceEqDiff, Nat.reduceMul, Nat.reduceSub, Nat.reducePow, Int.reduceToNat, Int.reduceLE, Int.reduceLT, Int.reduceEq, hrv.cells, hrv.tup]
      by_cases h0 : (runE most l xs 0).1 = 0
      · obtain ⟨hX, hlens⟩ := runE_ok (chkS_zero.1 hck) h0
        have hsM : sM (0 : Int) most = most := rfl
        generalize (runE most l xs 0).2.2 = X at hrv hX hlens
        have hXl : X.length = l.length := lens_len hlens
        have hp1 := free15 (most := most) hrv hX.who_ (by omega)
        have hfr : freeRes most X = .tup [mkS (nats (frees most X)), .int .i64 0] := by unfold freeRes; rw [if_neg (by simp [chkS_zero.2 hX])]; rfl
        rw [hfr] at hp1
        have hp2 := chk19 (most := most) hrv hX.who_
        rw [chkS_zero.2 hX] at hp2
        simp -dsimp -implicitDefEqProofs only [go_sem, C_P, C_deep, reduceCtorEq, Nat.reduceAdd, Nat.reduceLeDiff, Nat.reduceLT, Nat.reduceEqDiff, Nat.reduceMul, Nat.reduceSub, Nat.reducePow, Int.reduceToNat, Int.reduceLE, Int.reduceLT, Int.reduceEq, h0, hsM, show ((0 : Int) != 0) = false from rfl, WCh_pure hp1, WCh_pure hp2, hrv.cells, hrv.tup, len_SV sl_22 hrv, len_SV sl_22 hs, blks_len, hXl, show ((l.length : Int) != l.length) = false by simp, show (most != most) = false by simp]
        refine WL_for l.length (I11 l X most sv esv rv) ⟨_, rfl⟩ ?_ ?_
        · rintro i st hi ⟨g, hst⟩
          rw [hst]
          generalize gv st = z
          have hd : decide ((i : Int) < l.length) = true := by simp; omega
          obtain ⟨b, hb⟩ : ∃ b, l[i]? = some b := ⟨_, List.getElem?_eq_getElem hi⟩
          obtain ⟨b1, hb1⟩ : ∃ b, X[i]? = some b := ⟨_, List.getElem?_eq_getElem (by omega)⟩
          have hbc : (blks l)[i]? = some [.int .i64 b.len, .int .i64 b.wear, .int .i64 b.uses, .str b.who] := blks_get hb
          have hbc1 : (blks X)[i]? = some [.int .i64 b1.len, .int .i64 b1.wear, .int .i64 b1.uses, .str b1.who] := blks_get hb1
          have hv := index_SV (k := .i64) sl_22 hs hbc rfl
          have hv1 := index_SV (k := .i64) sl_22 hrv hbc1 rfl
          have hlen : b1.len = b.len := by
            have e1 := lens_get hb1
            rw [hlens, lens_get hb] at e1
            exact (Option.some.inj e1).symm
          have hcf := contains35 (m := i) (mkS_SV (nats (frees most X))) (by have := frees_len (most := most) (l := X); omega)
          have hsu := whr_succ (p := freeP most) hb1
          obtain ⟨g1, g2, g3, g4, g5⟩ := hX.blk i b1 hb1
          have hwl := whr_len (freeP most) X i
          by_cases hz : b1.who.size = 0
          · by_cases hwe : b1.wear > most
            · have hfp : freeP most b1 = false := by unfold freeP; rw [decide_eq_false (show ¬ b1.wear ≤ most by omega), Bool.and_false]
              rw [hfp, if_neg (by decide), List.append_nil] at hsu
              simp -dsimp -implicitDefEqProofs only [go_sem, C_P, C_deep, reduceCtorEq, Nat.reduceAdd, Nat.reduceLeDiff, Nat.reduceLT, Nat.reduceEqDiff, Nat.reduceMul, Nat.reduceSub, Nat.reducePow, Int.reduceToNat, Int.reduceLE, Int.reduceLT, Int.reduceEq, hd, hv, hv1, hlen, show (b.len != b.len) = false by simp, ↓W_drawnL hdr.1, ↓W_drawnL hdr.2, str_empty, decide_eq_true hz, decide_eq_true hwe, wrap_succ (show i < 9223372036854775807 by omega)]
              rw [← hsu]
              exact ⟨_, rfl⟩
            · have hfp : freeP most b1 = true := by unfold freeP; rw [decide_eq_true hz, decide_eq_true (show b1.wear ≤ most by omega), Bool.and_true]
              have hmem : i ∈ frees most X := (whr_iff hb1).2 hfp
              rw [hfp, if_pos rfl] at hsu
              have hsl : (whr (freeP most) X (i + 1)).length = (whr (freeP most) X i).length + 1 := by rw [hsu]; simp
              simp -dsimp -implicitDefEqProofs only [go_sem, C_P, C_deep, reduceCtorEq, Nat.reduceAdd, Nat.reduceLeDiff, Nat.reduceLT, Nat.reduceEqDiff, Nat.reduceMul, Nat.reduceSub, Nat.reducePow, Int.reduceToNat, Int.reduceLE, Int.reduceLT, Int.reduceEq, hd, hv, hv1, hlen, show (b.len != b.len) = false by simp, ↓W_drawnL hdr.1, ↓W_drawnL hdr.2, str_empty, decide_eq_true hz, decide_eq_false hwe, WCh_pure hcf, decide_eq_true hmem, wrap_succ (show i < 9223372036854775807 by omega), wrap_succ (show (whr (freeP most) X i).length < 9223372036854775807 by omega)]
              rw [← hsl]
              exact ⟨_, rfl⟩
          · have hwe : ¬ b1.wear > most := by have := g5 hz; omega
            have hfp : freeP most b1 = false := by unfold freeP; rw [decide_eq_false hz, Bool.false_and]
            rw [hfp, if_neg (by decide), List.append_nil] at hsu
            simp -dsimp -implicitDefEqProofs only [go_sem, C_P, C_deep, reduceCtorEq, Nat.reduceAdd, Nat.reduceLeDiff, Nat.reduceLT, Nat.reduceEqDiff, Nat.reduceMul, Nat.reduceSub, Nat.reducePow, Int.reduceToNat, Int.reduceLE, Int.reduceLT, Int.reduceEq, hd, hv, hv1, hlen, show (b.len != b.len) = false by simp, ↓W_drawnL hdr.1, ↓W_drawnL hdr.2, str_empty, decide_eq_false hz, decide_eq_false hwe, wrap_succ (show i < 9223372036854775807 by omega)]
            rw [← hsu]
            exact ⟨_, rfl⟩
        · rintro st ⟨g, hst⟩
          rw [hst]
          generalize gv st = z
          have hd : decide ((l.length : Int) < l.length) = false := by simp
          have hlf := len_SV sl_31 (mkS_SV (nats (frees most X)))
          rw [nats_len] at hlf
          have hfin : whr (freeP most) X l.length = frees most X := by unfold frees; rw [hXl]
          simp -dsimp -implicitDefEqProofs only [go_sem, C_P, C_deep, reduceCtorEq, Nat.reduceAdd, Nat.reduceLeDiff, Nat.reduceLT, Nat.reduceEqDiff, Nat.reduceMul, Nat.reduceSub, Nat.reducePow, Int.reduceToNat, Int.reduceLE, Int.reduceLT, Int.reduceEq, hd, hlf, hfin, awake]
      · simp -dsimp -implicitDefEqProofs only [go_sem, C_P, C_deep, reduceCtorEq, Nat.reduceAdd, Nat.reduceLeDiff, Nat.reduceLT, Nat.reduceEqDiff, Nat.reduceMul, Nat.reduceSub, Nat.reducePow, Int.reduceToNat, Int.reduceLE, Int.reduceLT, Int.reduceEq, show ((runE most l xs 0).1 != 0) = true by simpa using h0, awake]
end Go.Proofs.YtbcmiddffckgmaaDoor.Am
