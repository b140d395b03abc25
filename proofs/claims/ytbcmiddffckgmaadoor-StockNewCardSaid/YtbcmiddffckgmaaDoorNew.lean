/- StockNew answers true for every input, and the seat's card of it. Conditions: none of its own; the card's ties are the given ones. -/
import Derived.Test.YtbcmiddffckgmaaDoorBrNew
import Derived.Test.YtbcmiddffckgmaaDoorS4
import Derived.Test.YtbcmiddffckgmaaDoorAwake
import Derived.Test.YtbcmiddffckgmaaDoorTie
import Derived.Test.YtbcmiddffckgmaaDoorCards
import Derived.SevenTiedAt
set_option linter.unusedVariables false
set_option linter.unusedSimpArgs false
set_option linter.unnecessarySimpa false
namespace Go.Proofs.YtbcmiddffckgmaaDoor.Am
open Go
theorem newRes_ex (most : Int) (l : List Int) : ∃ (m : Int) (bl : List Blk) (e : Int), newRes most l = .tup [.agg [.int .i64 m, mkS (blks bl)], .int .i64 e] ∧ bl.length ≤ 256 := by
  unfold newRes
  split
  · exact ⟨0, [], 2, rfl, by simp⟩
  · split
    · exact ⟨0, [], chkSet l, rfl, by simp⟩
    · rename_i h; exact ⟨most, l.map newB, 0, rfl, by rw [List.length_map]; exact chk_len (Decidable.not_not.mp h)⟩
set_option maxRecDepth 100000 in
theorem stockNew_run {most : Int} {sv : PV} {l : List Int} (hs : SV sv (ints l)) : WC C 4 [.int .i64 most, sv] [] fun v _ _ => v = .bool true := by
  refine WC_own (fn := Tryd.f4) Tryd.func4 rfl rfl rfl (Or.inl rfl) ?_; simp only [Tryd.f4, List.replicate, List.length_cons, List.length_nil, Nat.reduceSub, Nat.reduceAdd, List.cons_append, List.nil_append]
  have hdr := dr_4; simp only [drwF, Tryd.f4, drw, cond_true, cond_false, List.append_nil, List.nil_append, List.cons_append, List.map_cons, List.map_nil, List.cons.injEq, and_true] at hdr
  simp -dsimp -implicitDefEqProofs only [go_sem, C_P, C_deep, reduceCtorEq, Nat.reduceAdd, Nat.reduceLeDiff, Nat.reduceLT, Nat.reduceEqDiff, Nat.reduceMul, Nat.reduceSub, Nat.reducePow, Int.reduceToNat, Int.reduceLE, Int.reduceLT, Int.reduceEq, len_SV sl_31 hs, ints_len]
  refine Br_intro (fun h => ?_) (fun h => ?_)
  · simp -dsimp -implicitDefEqProofs only [go_sem, C_P, C_deep, reduceCtorEq, Nat.reduceAdd, Nat.reduceLeDiff, Nat.reduceLT, Nat.reduceEqDiff, Nat.reduceMul, Nat.reduceSub, Nat.reducePow, Int.reduceToNat, Int.reduceLE, Int.reduceLT, Int.reduceEq, awake]
  · have hn : l.length ≤ 512 := by have := of_decide_eq_false h; omega
    obtain ⟨m, bl, e, hr, hb⟩ := newRes_ex most l
    simp -dsimp -implicitDefEqProofs only [go_sem, C_P, C_deep, reduceCtorEq, Nat.reduceAdd, Nat.reduceLeDiff, Nat.reduceLT, Nat.reduceEqDiff, Nat.reduceMul, Nat.reduceSub, Nat.reducePow, Int.reduceToNat, Int.reduceLE, Int.reduceLT, Int.reduceEq, WCh_pure (new22 hs), WCh_pure (new23 hs), hr, (mkS_SV (blks bl)).cells, (mkS_SV (blks bl)).tup, ↓W_drawnL hdr,
      WCh_pure (own (most := m) (mkS_SV (blks bl)) (blks_four bl) (by rw [blks_len]; omega) (blks_scal bl)),
      WCh_pure (same24 (m := m) (m' := m) (mkS_SV (blks bl)) (mkS_SV (blks bl)) (by omega)), sameB_refl, awake]
end Go.Proofs.YtbcmiddffckgmaaDoor.Am
namespace Go.Proofs.YtbcmiddffckgmaaDoor
open Go Am
theorem stockNew_row_holds : Rows.StockNewSaid :=
  OpenClaim.holds_of_wide 4 Tryd.f4 rfl rfl rfl rfl rfl rfl rfl ⟨rfl, rfl, rfl, rfl, rfl⟩ rfl rfl rfl rfl rfl (by kernel_rfl) Tryd.func4 (by kernel_rfl)
    (of_decide_eq_true (by kernel_rfl)) (by unfold Func.isWrapper; first | (rw [if_pos (by decide +kernel)]; kernel_rfl) | (rw [if_neg (by decide +kernel)]; exact ⟨rfl, rfl⟩))
    (fun os started H enc _ => stockNew_lifted (fun most sv l hs _ _ _ => stockNew_run hs) os started H enc)
theorem stockNew_holds : Rows.StockNewCardSaid :=
  Claim7.holds_tied_plain_at .later [] [.data, .pinned] true (true, "69499d06f72edb67294ee165da589fcc6e01f4a6b193854f3eab6cd273f41cb9") false
    stockNew_row_holds (fun _ h => by cases h) (by kernel_rfl) (fun _ h => by cases h) stockNew_row_tie rfl ⟨rfl, rfl⟩ (by kernel_rfl) rfl
    (fun f fn hf hfn => by
      obtain rfl : f = 4 := Option.some.inj ((show Tryd.prog.funcNamed "metrolab/metrolablaw51.StockNew" = some 4 by kernel_rfl).symm.trans hf) |>.symm
      obtain rfl : fn = Tryd.f4 := (Option.some.inj (Tryd.func4.symm.trans hfn)).symm
      exact ⟨by kernel_rfl, fun j t ht => by
        rw [Tryd.params4] at ht
        have hm : t ∈ [3, 31] := by simpa using Array.mem_of_getElem? ht
        have hall : ([3, 31].all fun u => !Tryd.prog.wantsStandIn u) = true := by kernel_rfl
        exact (show Tryd.prog.wantsStandIn t = false by simpa using List.all_eq_true.1 hall t hm)⟩)
    (by kernel_rfl)
#print axioms stockNew_holds
end Go.Proofs.YtbcmiddffckgmaaDoor
