/- Copies for someone with a name; the deviation; equal lists. -/
import Derived.Test.YtbcmiddffckgmaaDoorS11
set_option linter.unusedVariables false
set_option linter.unusedSimpArgs false
set_option linter.unnecessarySimpa false
namespace Go.Proofs.YtbcmiddffckgmaaDoor.Am
open Go
theorem nameF_zero {s : ByteArray} (h : s.size = 0) : nameF s = 3 := by
  unfold nameF
  by_cases ha : allLow s = false
  · rw [if_pos ha]
  · rw [if_neg ha, if_pos h]
set_option maxRecDepth 100000 in
theorem named45 {f : List AObj} {H : Heap} {most sv l} {who : ByteArray} (hs : BV H sv l) (hw : ∀ b ∈ l, b.who.size ≤ maxL) (hm : who.size ≤ maxL) (hn : l.length ≤ 512) {K t}
    (hbad : namedE most l who ≠ 0 → ∀ F v, Sub f F → K (.tup [v, .int .i64 (namedE most l who)]) (F :: H) [])
    (hok : namedE most l who = 0 → ∀ F q, Sub f F → CopF H.length f.length F q most l → K (.tup [.ref H.length q 0 0 2, .int .i64 0]) (F :: H) []) : WCh C 45 [.agg [.int .i64 most, sv], .str who] (f :: H) K t := by
  suffices h : WC C 45 [.agg [.int .i64 most, sv], .str who] (f :: H) fun v H' d => (namedE most l who ≠ 0 ∧ ∃ F v', Sub f F ∧ v = .tup [v', .int .i64 (namedE most l who)] ∧ H' = F :: H ∧ d = []) ∨
      (namedE most l who = 0 ∧ ∃ F q, Sub f F ∧ CopF H.length f.length F q most l ∧ v = .tup [.ref H.length q 0 0 2, .int .i64 0] ∧ H' = F :: H ∧ d = []) from
    WCh_of h fun v H' d hh => by
      rcases hh with ⟨h1, F, v', h2, rfl, rfl, rfl⟩ | ⟨h1, F, q, h2, h3, rfl, rfl, rfl⟩
      · exact hbad h1 _ _ h2
      · exact hok h1 _ _ h2 h3
  refine WC_inl (fn := Tryd.f45) Tryd.func45 rfl rfl rfl rfl (List.cons_ne_nil _ _) ?_; simp only [Tryd.f45, List.replicate, List.length_cons, List.length_nil, Nat.reduceSub, Nat.reduceAdd, List.cons_append, List.nil_append]
  simp -dsimp -implicitDefEqProofs only [go_sem, C_P, C_deep, reduceCtorEq, Nat.reduceAdd, Nat.reduceLeDiff, Nat.reduceLT, Nat.reduceEqDiff, Nat.reduceMul, Nat.reduceSub, Nat.reducePow, Int.reduceToNat, Int.reduceLE, Int.reduceLT, Int.reduceEq, hs.cells, hs.tup]
  refine of42 hs hw hn (fun h F hF => ?_) (fun h F q hF hc => ?_)
  · have hF' : Sub f F := Sub.trans ⟨_, rfl⟩ hF
    have he : namedE most l who = chkS most l := by unfold namedE; rw [if_pos h]
    simp -dsimp -implicitDefEqProofs only [go_sem, C_P, C_deep, reduceCtorEq, Nat.reduceAdd, Nat.reduceLeDiff, Nat.reduceLT, Nat.reduceEqDiff, Nat.reduceMul, Nat.reduceSub, Nat.reducePow, Int.reduceToNat, Int.reduceLE, Int.reduceLT, Int.reduceEq, show (chkS most l != 0) = true by simpa using h]
    exact .inl ⟨by rw [he]; exact h, F, _, hF', by rw [he], rfl⟩
  · have hF' : Sub f F := Sub.trans ⟨_, rfl⟩ hF
    have he : namedE most l who = nameF who := by unfold namedE; rw [if_neg (by simp [h])]
    simp -dsimp -implicitDefEqProofs only [go_sem, C_P, C_deep, reduceCtorEq, Nat.reduceAdd, Nat.reduceLeDiff, Nat.reduceLT, Nat.reduceEqDiff, Nat.reduceMul, Nat.reduceSub, Nat.reducePow, Int.reduceToNat, Int.reduceLE, Int.reduceLT, Int.reduceEq, str_empty]
    refine Br_intro (fun h1 => ?_) (fun h1 => ?_)
    · have h3 := nameF_zero (of_decide_eq_true h1)
      simp -dsimp -implicitDefEqProofs only [go_sem, C_P, C_deep, reduceCtorEq, Nat.reduceAdd, Nat.reduceLeDiff, Nat.reduceLT, Nat.reduceEqDiff, Nat.reduceMul, Nat.reduceSub, Nat.reducePow, Int.reduceToNat, Int.reduceLE, Int.reduceLT, Int.reduceEq]
      exact .inl ⟨by rw [he, h3]; decide, F, _, hF', by rw [he, h3], rfl⟩
    · have h3 := nameF_letF (of_decide_eq_false h1)
      simp -dsimp -implicitDefEqProofs only [go_sem, C_P, C_deep, reduceCtorEq, Nat.reduceAdd, Nat.reduceLeDiff, Nat.reduceLT, Nat.reduceEqDiff, Nat.reduceMul, Nat.reduceSub, Nat.reducePow, Int.reduceToNat, Int.reduceLE, Int.reduceLT, Int.reduceEq, WCh_pure (let50 who hm)]
      by_cases h4 : letF who = 0
      · rw [h4]
        exact .inr ⟨by rw [he, h3, h4], F, q, hF', hc.mono (by simp), rfl, rfl⟩
      · exact .inl ⟨by rw [he, h3]; exact h4, F, _, hF', by rw [he, h3], rfl⟩
def I17 (l : List Blk) (most : Int) (sv : PV) (who : ByteArray) (idx : List Nat) (H : Heap) (F : List AObj) (q : Nat) (j : Nat) (st : St) : Prop :=
  st = ⟨[.agg [.int .i64 most, sv], .str who, gv st 2, gv st 3, .int .i64 0, .int .i64 0, .ref H.length q 0 0 2, gv st 7, gv st 8, .int .i64 (sumW l (idx.take j)), gv st 10, gv st 11, gv st 12, gv st 13, gv st 14, gv st 15, gv st 16, gv st 17, gv st 18, gv st 19, gv st 20, gv st 21, gv st 22, gv st 23, gv st 24, gv st 25, gv st 26, mkS (nats idx), .int .i64 idx.length, .int .i64 j, gv st 30, gv st 31, gv st 32, gv st 33, gv st 34, gv st 35, gv st 36, gv st 37, gv st 38, gv st 39, gv st 40, gv st 41, gv st 42, gv st 43, gv st 44, gv st 45], F :: H, []⟩
set_option maxRecDepth 100000 in
theorem dev17 {most sv l} {who : ByteArray} (hs : SV sv (blks l)) (hw : ∀ b ∈ l, b.who.size ≤ maxL) (hm : who.size ≤ maxL) (hn : l.length ≤ 512) : Pure C 17 [.agg [.int .i64 most, sv], .str who] (devRes most l who) := by
  intro H
  refine WC_own (fn := Tryd.f17) Tryd.func17 rfl rfl rfl (Or.inl rfl) ?_; simp only [Tryd.f17, List.replicate, List.length_cons, List.length_nil, Nat.reduceSub, Nat.reduceAdd, List.cons_append, List.nil_append]
  simp -dsimp -implicitDefEqProofs only [go_sem, C_P, C_deep, reduceCtorEq, Nat.reduceAdd, Nat.reduceLeDiff, Nat.reduceLT, Nat.reduceEqDiff, Nat.reduceMul, Nat.reduceSub, Nat.reducePow, Int.reduceToNat, Int.reduceLE, Int.reduceLT, Int.reduceEq]
  unfold devRes
  refine named45 (BV.of hs) hw hm hn (fun h F v hF => ?_) (fun h F q hF hc => ?_)
  · simp -dsimp -implicitDefEqProofs only [go_sem, C_P, C_deep, reduceCtorEq, Nat.reduceAdd, Nat.reduceLeDiff, Nat.reduceLT, Nat.reduceEqDiff, Nat.reduceMul, Nat.reduceSub, Nat.reducePow, Int.reduceToNat, Int.reduceLE, Int.reduceLT, Int.reduceEq, show (namedE most l who != 0) = true by simpa using h]
    rw [if_pos h]
  · rw [if_neg (by simp [h])]
    simp -dsimp -implicitDefEqProofs only [go_sem, C_P, C_deep, reduceCtorEq, Nat.reduceAdd, Nat.reduceLeDiff, Nat.reduceLT, Nat.reduceEqDiff, Nat.reduceMul, Nat.reduceSub, Nat.reducePow, Int.reduceToNat, Int.reduceLE, Int.reduceLT, Int.reduceEq, held46 hc.cop hn]
    generalize hx : whr (heldP who) l l.length = idx
    have hmem : ∀ i ∈ idx, i < l.length := fun i hi => (whr_mem (hx ▸ hi)).1
    have hil : idx.length ≤ 512 := by rw [← hx]; exact Nat.le_trans (whr_len _ _ _) hn
    have hln := len_SV sl_31 (mkS_SV (nats idx))
    rw [nats_len] at hln
    simp -dsimp -implicitDefEqProofs only [go_sem, C_P, C_deep, reduceCtorEq, Nat.reduceAdd, Nat.reduceLeDiff, Nat.reduceLT, Nat.reduceEqDiff, Nat.reduceMul, Nat.reduceSub, Nat.reducePow, Int.reduceToNat, Int.reduceLE, Int.reduceLT, Int.reduceEq, hln]
    refine Br_intro (fun h => ?_) (fun h => ?_)
    · simp -dsimp -implicitDefEqProofs only [go_sem, C_P, C_deep, reduceCtorEq, Nat.reduceAdd, Nat.reduceLeDiff, Nat.reduceLT, Nat.reduceEqDiff, Nat.reduceMul, Nat.reduceSub, Nat.reducePow, Int.reduceToNat, Int.reduceLE, Int.reduceLT, Int.reduceEq]
      rw [if_pos (by simp at h; simpa using h)]
    · rw [if_neg (by simp at h; simpa using h)]
      simp -dsimp -implicitDefEqProofs only [go_sem, C_P, C_deep, reduceCtorEq, Nat.reduceAdd, Nat.reduceLeDiff, Nat.reduceLT, Nat.reduceEqDiff, Nat.reduceMul, Nat.reduceSub, Nat.reducePow, Int.reduceToNat, Int.reduceLE, Int.reduceLT, Int.reduceEq, hln]
      obtain ⟨sv', hq, hkq, hb⟩ := hc
      refine WL_for idx.length (I17 l most sv who idx H F q) rfl ?_ ?_
      · rintro j st hj hst
        rw [I17] at hst
        rw [hst]
        generalize gv st = x
        have hd : decide ((j : Int) < idx.length) = true := by simp; omega
        obtain ⟨n, hnj⟩ : ∃ n, idx[j]? = some n := ⟨_, List.getElem?_eq_getElem hj⟩
        have hnl := hmem n (List.mem_of_getElem? hnj)
        obtain ⟨b, hbi⟩ : ∃ b, l[n]? = some b := ⟨_, List.getElem?_eq_getElem hnl⟩
        have hsum : IntKind.i64.wrap (sumW l (idx.take j) + b.wear) = sumW l (idx.take (j + 1)) := by
          rw [← take_snoc hnj, sumW_snoc]; unfold wearAt; rw [hbi]
        rcases hb with ⟨rfl, rfl⟩ | ⟨jj, rfl, hkj, hjq, hj'⟩
        · simp at hnl
        have hF1 : (blks l).flatten[n * 4 + 1]? = some (.int .i64 b.wear) := fl_get (blks_four l) (blks_get hbi) (by decide)
        have hF2 : n * 4 + 4 ≤ (blks l).flatten.length := fl_le (blks_four l) (by rw [blks_len]; exact hnl)
        generalize (blks l).flatten = F0 at hj' hF1 hF2
        simp -dsimp -implicitDefEqProofs only [go_sem, C_P, C_deep, reduceCtorEq, Nat.reduceAdd, Nat.reduceLeDiff, Nat.reduceLT, Nat.reduceEqDiff, Nat.reduceMul, Nat.reduceSub, Nat.reducePow, Int.reduceToNat, Int.reduceLE, Int.reduceLT, Int.reduceEq, hd, index_SV (k := .i64) sl_31 (mkS_SV (nats idx)) (nats_get hnj) rfl, hq, hj', hF1, hF2, hnl, show (0 : Int) ≤ (n : Int) from by omega, hsum, wrap_succ (show j < 9223372036854775807 by omega)]
        exact rfl
      · rintro st hst
        rw [I17] at hst
        rw [hst]
        generalize gv st = x
        simp -dsimp -implicitDefEqProofs only [go_sem, C_P, C_deep, reduceCtorEq, Nat.reduceAdd, Nat.reduceLeDiff, Nat.reduceLT, Nat.reduceEqDiff, Nat.reduceMul, Nat.reduceSub, Nat.reducePow, Int.reduceToNat, Int.reduceLE, Int.reduceLT, Int.reduceEq, List.take_length]
def I21 (x : List Int) (sx sy : PV) (H : Heap) (i : Nat) (st : St) : Prop :=
  st = ⟨[sx, sy, gv st 2, gv st 3, .bool false, gv st 5, gv st 6, gv st 7, gv st 8, gv st 9, gv st 10, gv st 11, .int .i64 x.length, .int .i64 i, gv st 14, gv st 15, gv st 16, gv st 17, gv st 18, gv st 19, gv st 20, gv st 21, gv st 22, gv st 23, gv st 24, gv st 25], [] :: H, []⟩
set_option maxRecDepth 100000 in
theorem eql21 {sx sy x} (hx : SV sx (ints x)) (hy : SV sy (ints x)) (hn : x.length ≤ 9223372036854775806) : Pure C 21 [sx, sy] (.bool true) := by
  intro H
  refine WC_own (fn := Tryd.f21) Tryd.func21 rfl rfl rfl (Or.inl rfl) ?_; simp only [Tryd.f21, List.replicate, List.length_cons, List.length_nil, Nat.reduceSub, Nat.reduceAdd, List.cons_append, List.nil_append]
  have hdr := dr_21; simp only [drwF, Tryd.f21, drw, cond_true, cond_false, List.append_nil, List.nil_append, List.cons_append, List.map_cons, List.map_nil, List.cons.injEq, and_true] at hdr
  simp -dsimp -implicitDefEqProofs only [go_sem, C_P, C_deep, reduceCtorEq, Nat.reduceAdd, Nat.reduceLeDiff, Nat.reduceLT, Nat.reduceEqDiff, Nat.reduceMul, Nat.reduceSub, Nat.reducePow, Int.reduceToNat, Int.reduceLE, Int.reduceLT, Int.reduceEq, len_SV sl_31 hx, len_SV sl_31 hy, ints_len]
  refine WL_for x.length (I21 x sx sy H) rfl ?_ ?_
  · rintro i st hi hst
    rw [I21] at hst
    rw [hst]
    generalize gv st = z
    have hd : decide ((i : Int) < x.length) = true := by simp; omega
    simp -dsimp -implicitDefEqProofs only [go_sem, C_P, C_deep, reduceCtorEq, Nat.reduceAdd, Nat.reduceLeDiff, Nat.reduceLT, Nat.reduceEqDiff, Nat.reduceMul, Nat.reduceSub, Nat.reducePow, Int.reduceToNat, Int.reduceLE, Int.reduceLT, Int.reduceEq, hd, ↓W_drawnL hdr, index_SV (k := .i64) sl_31 hx (ints_get hi) rfl, index_SV (k := .i64) sl_31 hy (ints_get hi) rfl, wrap_succ (show i < 9223372036854775807 by omega)]
    exact rfl
  · rintro st hst
    rw [I21] at hst
    rw [hst]
    generalize gv st = z
    simp -dsimp -implicitDefEqProofs only [go_sem, C_P, C_deep, reduceCtorEq, Nat.reduceAdd, Nat.reduceLeDiff, Nat.reduceLT, Nat.reduceEqDiff, Nat.reduceMul, Nat.reduceSub, Nat.reducePow, Int.reduceToNat, Int.reduceLE, Int.reduceLT, Int.reduceEq]
end Go.Proofs.YtbcmiddffckgmaaDoor.Am
