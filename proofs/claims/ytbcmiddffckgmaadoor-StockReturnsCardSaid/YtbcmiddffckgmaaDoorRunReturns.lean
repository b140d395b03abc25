/- The run of StockReturns. -/
import Derived.Test.YtbcmiddffckgmaaDoorS30
import Derived.Test.YtbcmiddffckgmaaDoorP4
set_option linter.unusedVariables false
set_option linter.unusedSimpArgs false
set_option linter.unnecessarySimpa false
namespace Go.Proofs.YtbcmiddffckgmaaDoor.Am
open Go
theorem eqC66 (a b c : Int) (s : ByteArray) (a' b' c' : Int) (s' : ByteArray) : eqC PP Op.maxDepth 66 (.agg [.int .i64 a, .int .i64 b, .int .i64 c, .str s]) (.agg [.int .i64 a', .int .i64 b', .int .i64 c', .str s']) =
    (if a == a' then (if b == b' then (if c == c' then (if s.toList == s'.toList then some true else some false) else some false) else some false) else some false) := by kernel_rfl
theorem neq66 (a b c : Int) (s : ByteArray) (a' b' c' : Int) (s' : ByteArray) : binOpP PP .neq 66 (.agg [.int .i64 a, .int .i64 b, .int .i64 c, .str s]) (.agg [.int .i64 a', .int .i64 b', .int .i64 c', .str s']) = some (.bool !(Blk.eqb ⟨a, b, c, s⟩ ⟨a', b', c', s'⟩)) := by
  have h : binOpP PP .neq 66 (.agg [.int .i64 a, .int .i64 b, .int .i64 c, .str s]) (.agg [.int .i64 a', .int .i64 b', .int .i64 c', .str s']) = (eqC PP Op.maxDepth 66 (.agg [.int .i64 a, .int .i64 b, .int .i64 c, .str s]) (.agg [.int .i64 a', .int .i64 b', .int .i64 c', .str s'])).map fun b => .bool !b := by kernel_rfl
  rw [h, eqC66, Blk.eqb]
  simp only []
  cases a == a' <;> cases b == b' <;> cases c == c' <;> cases s.toList == s'.toList <;> rfl
theorem eqb_of {a b c s a' b' c' s'} (h : (⟨a, b, c, s⟩ : Blk) = ⟨a', b', c', s'⟩) : Blk.eqb ⟨a, b, c, s⟩ ⟨a', b', c', s'⟩ = true := by rw [h]; exact Blk.eqb_refl _
def I8 (l L : List Blk) (most : Int) (sv : PV) (who : ByteArray) (n dv : Int) (O : List Nat) (i : Nat) (st : St) : Prop :=
  ∃ (g : List AObj), st = ⟨[.agg [.int .i64 most, sv], .str who, .int .i64 n, .ref 0 0 0 0 2, gv st 4, gv st 5, .bool false, gv st 7, mkS (nats O), .int .i64 0, .int .i64 dv, gv st 11, .int .i64 0, .int .i64 (sumW l (takenTo O i)), gv st 14, gv st 15, gv st 16, gv st 17, gv st 18, gv st 19, gv st 20, gv st 21, gv st 22, gv st 23, gv st 24, gv st 25, gv st 26, gv st 27, gv st 28, gv st 29, gv st 30, gv st 31, gv st 32, gv st 33, gv st 34, gv st 35, gv st 36, gv st 37, gv st 38, gv st 39, gv st 40, gv st 41, gv st 42, gv st 43, gv st 44, gv st 45, gv st 46, gv st 47, gv st 48, gv st 49, gv st 50, gv st 51, gv st 52, gv st 53, gv st 54, gv st 55, gv st 56, gv st 57, gv st 58, gv st 59, gv st 60, gv st 61, gv st 62, gv st 63, gv st 64, gv st 65, gv st 66, gv st 67, gv st 68, mkS (blks L), .int .i64 l.length, .int .i64 i, gv st 72, gv st 73, gv st 74, gv st 75, gv st 76, gv st 77, gv st 78, gv st 79, gv st 80, gv st 81, gv st 82, gv st 83, gv st 84, gv st 85, gv st 86, gv st 87, gv st 88, gv st 89, gv st 90, gv st 91, gv st 92, gv st 93, gv st 94, gv st 95, gv st 96, gv st 97, gv st 98, gv st 99, gv st 100], [⟨[.int .i64 most, sv], 0, 0⟩ :: g], []⟩
set_option maxHeartbeats 2000000 in
set_option maxRecDepth 100000 in
theorem stockReturns_run {most : Int} {sv : PV} {l : List Blk} {who : ByteArray} {n : Int} (hs : SV sv (blks l)) (hw : ∀ b ∈ l, b.who.size ≤ maxL) (hn : l.length * 40 ≤ 140737488355328) (hm : who.size ≤ maxL) :
    WC C 8 [.agg [.int .i64 most, sv], .str who, .int .i64 n] [] fun v _ _ => v = .bool true := by
  refine WC_own (fn := Tryd.f8) Tryd.func8 rfl rfl rfl (Or.inl rfl) ?_; simp only [Tryd.f8, List.replicate, List.length_cons, List.length_nil, Nat.reduceSub, Nat.reduceAdd, List.cons_append, List.nil_append]
  have hdr := dr_8; simp only [drwF, Tryd.f8, drw, cond_true, cond_false, List.append_nil, List.nil_append, List.cons_append, List.map_cons, List.map_nil, List.cons.injEq, and_true] at hdr
  have hr := right33 (most := most) hs hw hn
  cases hf : rightB most l with
  | false => simp -dsimp -implicitDefEqProofs only [go_sem, C_P, C_deep, reduceCtorEq, Nat.reduceAdd, Nat.reduceLeDiff, Nat.reduceLT, Nat.reduceEqDiff, Nat.reduceMul, Nat.reduceSub, Nat.reducePow, Int.reduceToNat, Int.reduceLE, Int.reduceLT, Int.reduceEq, WCh_pure hr, hf, awake]
  | true =>
    have hl8 : l.length ≤ 8 := by unfold rightB at hf; simp at hf; exact hf.1
    simp -dsimp -implicitDefEqProofs only [go_sem, C_P, C_deep, reduceCtorEq, Nat.reduceAdd, Nat.reduceLeDiff, Nat.reduceLT, Nat.reduceEqDiff, Nat.reduceMul, Nat.reduceSub, Nat.reducePow, Int.reduceToNat, Int.reduceLE, Int.reduceLT, Int.reduceEq, WCh_pure hr, hf, WCh_pure (name34 who hm)]
    refine Br_intro (fun h => ?_) (fun h => ?_)
    · simp -dsimp -implicitDefEqProofs only [go_sem, C_P, C_deep, reduceCtorEq, Nat.reduceAdd, Nat.reduceLeDiff, Nat.reduceLT, Nat.reduceEqDiff, Nat.reduceMul, Nat.reduceSub, Nat.reducePow, Int.reduceToNat, Int.reduceLE, Int.reduceLT, Int.reduceEq, h, awake]
    · by_cases ht : takeE most l who n = 0
      · have hT := took ht
        have hN := takeL_ok ht
        have hNl : (takeL most l who n).length = l.length := setIdx_len _ _ _
        have hNw := hN.who_
        have hdv : devRes most (takeL most l who n) who = .tup [.int .i64 (sumW l (takeO most l n)), .int .i64 0] := by
          have hh := takeL_held ht
          unfold heldI at hh
          unfold devRes
          rw [if_neg (by simp [named_ok hN (takeE_zero ht).2.1]), hh, if_neg (fun hc => hT.ne (List.eq_nil_of_length_eq_zero hc)), sumW_take ht]
        have hp1 := take25 (most := most) (n := n) hs hw hm (by omega)
        have hp2 := dev17 (most := most) (who := who) (mkS_SV (blks (takeL most l who n))) hNw hm (by omega)
        have hp3 := ret27 (most := most) (who := who) (w := 0) (mkS_SV (blks (takeL most l who n))) hNw hm (by omega)
        rcases ret_take (w := 0) ht (by decide) with hr11 | ⟨hr0, hrL, hro⟩
        · rw [hr11, stkRes_bad (by decide)] at hp3
          simp -dsimp -implicitDefEqProofs only [go_sem, C_P, C_deep, reduceCtorEq, Nat.reduceAdd, Nat.reduceLeDiff, Nat.reduceLT, Nat.reduceEqDiff, Nat.reduceMul, Nat.reduceSub, Nat.reducePow, Int.reduceToNat, Int.reduceLE, Int.reduceLT, Int.reduceEq, h, WCh_pure hp1, takeRes_ok ht, WCh_pure hp2, hdv, WCh_pure hp3, awake]
        · rw [hr0, stkRes_ok, hrL] at hp3
          generalize hB : setIdx (retB 0) (takeL most l who n) (takeO most l n) = B at hp3
          have hBl : B.length = l.length := by rw [← hB, setIdx_len, hNl]
          simp -dsimp -implicitDefEqProofs only [go_sem, C_P, C_deep, reduceCtorEq, Nat.reduceAdd, Nat.reduceLeDiff, Nat.reduceLT, Nat.reduceEqDiff, Nat.reduceMul, Nat.reduceSub, Nat.reducePow, Int.reduceToNat, Int.reduceLE, Int.reduceLT, Int.reduceEq, h, WCh_pure hp1, takeRes_ok ht, WCh_pure hp2, hdv, WCh_pure hp3, show ((0 : Int) == 11) = false from rfl, show (IntKind.i64.wrap (0 + 0) != 0) = false from rfl, show ((l.length : Int) != l.length) = false by simp, len_SV sl_22 (mkS_SV (blks B)), len_SV sl_22 hs, blks_len, hBl]
          refine WL_for l.length (I8 l B most sv who n (sumW l (takeO most l n)) (takeO most l n)) ⟨_, rfl⟩ ?_ ?_
          · rintro i st hi ⟨g, hst⟩
            rw [hst]
            generalize gv st = x
            have hd : decide ((i : Int) < l.length) = true := by simp; omega
            obtain ⟨b, hb⟩ : ∃ b, l[i]? = some b := ⟨_, List.getElem?_eq_getElem hi⟩
            obtain ⟨b1, hb1⟩ : ∃ b, B[i]? = some b := ⟨_, List.getElem?_eq_getElem (by omega)⟩
            have hbc : (blks l)[i]? = some [.int .i64 b.len, .int .i64 b.wear, .int .i64 b.uses, .str b.who] := blks_get hb
            have hbc1 : (blks B)[i]? = some [.int .i64 b1.len, .int .i64 b1.wear, .int .i64 b1.uses, .str b1.who] := blks_get hb1
            have hv := index_SV (k := .i64) sl_22 hs hbc rfl
            have hv1 := index_SV (k := .i64) sl_22 (mkS_SV (blks B)) hbc1 rfl
            have hct := contains35 (m := i) (mkS_SV (nats (takeO most l n))) (by have := hT.le; omega)
            have hget := ret_get (w := 0) ht i
            rw [hB, hb1, hb] at hget
            obtain ⟨hsu1, hsu2⟩ := sumW_to (O := takeO most l n) hb
            by_cases hmem : i ∈ takeO most l n
            · rw [if_pos hmem] at hget
              have hb1e : b1 = retB 0 (withW who b) := by simpa using hget
              have hbo := took_bok ht hmem hb
              obtain ⟨_, hwe, hue⟩ := bok_ret hbo (by decide) (hro i b hmem hb)
              rw [← hb1e] at hwe hue
              have hwe' : b1.wear = b.wear := by rw [hwe]; exact Int.add_zero _
              have hue' : IntKind.i64.wrap (b1.uses - 1) = b.uses := by
                have h3 := hbo.2.2.1
                have h4 : (withW who b).uses = b.uses := rfl
                rw [hue, wrap64 (by omega), h4]; omega
              have hwho : b1.who = b.who := by rw [hb1e, (free_blk (hT.free i hmem) hb).1]; rfl
              have hlen : b1.len = b.len := by rw [hb1e]; rfl
              have heq : Blk.eqb ⟨b1.len, b1.wear, IntKind.i64.wrap (b1.uses - 1), b1.who⟩ ⟨b.len, b.wear, b.uses, b.who⟩ = true := by rw [hue', hwe', hwho, hlen]; exact Blk.eqb_refl _
              simp -dsimp -implicitDefEqProofs only [go_sem, C_P, C_deep, reduceCtorEq, Nat.reduceAdd, Nat.reduceLeDiff, Nat.reduceLT, Nat.reduceEqDiff, Nat.reduceMul, Nat.reduceSub, Nat.reducePow, Int.reduceToNat, Int.reduceLE, Int.reduceLT, Int.reduceEq, hd, hv, hv1, ↓W_drawnL hdr, WCh_pure hct, decide_eq_true hmem, neq66, heq, wrap_succ (show i < 9223372036854775807 by omega)]
              rw [hwe', ← hsu1 hmem]
              exact ⟨_, rfl⟩
            · rw [if_neg hmem] at hget
              have hb1e : b1 = b := by simpa using hget
              subst hb1e
              simp -dsimp -implicitDefEqProofs only [go_sem, C_P, C_deep, reduceCtorEq, Nat.reduceAdd, Nat.reduceLeDiff, Nat.reduceLT, Nat.reduceEqDiff, Nat.reduceMul, Nat.reduceSub, Nat.reducePow, Int.reduceToNat, Int.reduceLE, Int.reduceLT, Int.reduceEq, hd, hv, hv1, ↓W_drawnL hdr, WCh_pure hct, decide_eq_false hmem, neq66, Blk.eqb_refl, wrap_succ (show i < 9223372036854775807 by omega)]
              rw [← hsu2 hmem]
              exact ⟨_, rfl⟩
          · rintro st ⟨g, hst⟩
            rw [hst]
            generalize gv st = x
            have he : takenTo (takeO most l n) l.length = takeO most l n := filt_eq0 hT.sorted fun i hi => hT.lt hi
            simp -dsimp -implicitDefEqProofs only [go_sem, C_P, C_deep, reduceCtorEq, Nat.reduceAdd, Nat.reduceLeDiff, Nat.reduceLT, Nat.reduceEqDiff, Nat.reduceMul, Nat.reduceSub, Nat.reducePow, Int.reduceToNat, Int.reduceLE, Int.reduceLT, Int.reduceEq, he, awake]
      · simp -dsimp -implicitDefEqProofs only [go_sem, C_P, C_deep, reduceCtorEq, Nat.reduceAdd, Nat.reduceLeDiff, Nat.reduceLT, Nat.reduceEqDiff, Nat.reduceMul, Nat.reduceSub, Nat.reducePow, Int.reduceToNat, Int.reduceLE, Int.reduceLT, Int.reduceEq, h, WCh_pure (take25 (most := most) (n := n) hs hw hm (by omega)), takeRes_bad ht, show (takeE most l who n != 0) = true by simpa using ht, awake]
end Go.Proofs.YtbcmiddffckgmaaDoor.Am
