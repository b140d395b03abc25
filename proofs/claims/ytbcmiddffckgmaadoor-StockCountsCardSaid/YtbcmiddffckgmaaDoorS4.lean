/- The reference's new stocks; equal stocks. -/
import Derived.Test.YtbcmiddffckgmaaDoorS3
set_option linter.unusedVariables false
set_option linter.unusedSimpArgs false
set_option linter.unnecessarySimpa false
namespace Go.Proofs.YtbcmiddffckgmaaDoor.Am
open Go
def I23 (l : List Int) (most : Int) (sv : PV) (H : Heap) (i : Nat) (st : St) : Prop :=
  ∃ (g : List AObj) (av : PV), Acc 4 H.length 2 g av (blks ((l.take i).map newB)) ∧
    st = ⟨[.int .i64 most, sv, gv st 2, gv st 3, .ref H.length 0 0 0 2, .int .i64 0, gv st 6, .ref H.length 1 0 0 2, .int .i64 i, gv st 9, gv st 10, gv st 11, gv st 12, gv st 13, gv st 14, gv st 15, gv st 16, gv st 17, gv st 18, gv st 19, gv st 20, gv st 21, gv st 22, gv st 23, gv st 24, gv st 25, gv st 26, gv st 27, gv st 28, gv st 29, gv st 30, gv st 31, gv st 32, gv st 33, gv st 34, gv st 35, gv st 36, gv st 37],
      (⟨[.int .i64 0, .nils], 0, 0⟩ :: ⟨[.int .i64 most, av], 0, 0⟩ :: g) :: H, []⟩
set_option maxRecDepth 100000 in
theorem new23 {most sv l} (hs : SV sv (ints l)) : Pure C 23 [.int .i64 most, sv] (newRes most l) := by
  intro H
  refine WC_own (fn := Tryd.f23) Tryd.func23 rfl rfl rfl (Or.inl rfl) ?_; simp only [Tryd.f23, List.replicate, List.length_cons, List.length_nil, Nat.reduceSub, Nat.reduceAdd, List.cons_append, List.nil_append]
  have hdr := dr_23; simp only [drwF, Tryd.f23, drw, cond_true, cond_false, List.append_nil, List.nil_append, List.cons_append, List.map_cons, List.map_nil, List.cons.injEq, and_true] at hdr
  simp -dsimp -implicitDefEqProofs only [go_sem, C_P, C_deep, reduceCtorEq, Nat.reduceAdd, Nat.reduceLeDiff, Nat.reduceLT, Nat.reduceEqDiff, Nat.reduceMul, Nat.reduceSub, Nat.reducePow, Int.reduceToNat, Int.reduceLE, Int.reduceLT, Int.reduceEq, WCh_pure (len51 _ _)]
  unfold newRes
  refine Br_intro (fun h => ?_) (fun h => ?_)
  · simp -dsimp -implicitDefEqProofs only [go_sem, C_P, C_deep, reduceCtorEq, Nat.reduceAdd, Nat.reduceLeDiff, Nat.reduceLT, Nat.reduceEqDiff, Nat.reduceMul, Nat.reduceSub, Nat.reducePow, Int.reduceToNat, Int.reduceLE, Int.reduceLT, Int.reduceEq]
    rw [if_pos (by simpa using h)]
  · rw [if_neg (by simpa using h)]
    simp -dsimp -implicitDefEqProofs only [go_sem, C_P, C_deep, reduceCtorEq, Nat.reduceAdd, Nat.reduceLeDiff, Nat.reduceLT, Nat.reduceEqDiff, Nat.reduceMul, Nat.reduceSub, Nat.reducePow, Int.reduceToNat, Int.reduceLE, Int.reduceLT, Int.reduceEq, WCh_pure (chk53 hs)]
    refine Br_intro (fun h => ?_) (fun h => ?_)
    · simp -dsimp -implicitDefEqProofs only [go_sem, C_P, C_deep, reduceCtorEq, Nat.reduceAdd, Nat.reduceLeDiff, Nat.reduceLT, Nat.reduceEqDiff, Nat.reduceMul, Nat.reduceSub, Nat.reducePow, Int.reduceToNat, Int.reduceLE, Int.reduceLT, Int.reduceEq]
      rw [if_pos (by simpa using h)]
    · have hc : chkSet l = 0 := by simpa using h
      have hn := chk_len hc
      rw [if_neg (by simp [hc])]
      simp -dsimp -implicitDefEqProofs only [go_sem, C_P, C_deep, reduceCtorEq, Nat.reduceAdd, Nat.reduceLeDiff, Nat.reduceLT, Nat.reduceEqDiff, Nat.reduceMul, Nat.reduceSub, Nat.reducePow, Int.reduceToNat, Int.reduceLE, Int.reduceLT, Int.reduceEq, len_SV sl_31 hs, ints_len]
      refine WL_for l.length (I23 l most sv H) ⟨[], .nils, Acc_nil, rfl⟩ ?_ ?_
      · rintro i st hi ⟨g, av, hA, hst⟩
        rw [hst]
        generalize gv st = x
        have hd : decide ((i : Int) < l.length) = true := by simp; omega
        simp -dsimp -implicitDefEqProofs only [go_sem, C_P, C_deep, reduceCtorEq, Nat.reduceAdd, Nat.reduceLeDiff, Nat.reduceLT, Nat.reduceEqDiff, Nat.reduceMul, Nat.reduceSub, Nat.reducePow, Int.reduceToNat, Int.reduceLE, Int.reduceLT, Int.reduceEq, hd, index_SV sl_31 hs (ints_get hi) rfl, len_SV sl_31 hs, ints_len, ↓W_drawnL hdr]
        refine WXh_acc sl_26 hA rfl [_, _] [_] rfl 0 (by omega) rfl rfl (by decide) (room_ok (m := 256) (by decide) (by simp [blks]; omega) (by decide)) ?_
        rw [show [PV.int IntKind.i64 (l.getD i 0), .int .i64 0, .int .i64 0, .str ByteArray.empty] = (newB (l.getD i 0)).c from rfl, newB_take hi]
        intro av' g' wr hA' hwr
        simp -dsimp -implicitDefEqProofs only [go_sem, C_P, C_deep, reduceCtorEq, Nat.reduceAdd, Nat.reduceLeDiff, Nat.reduceLT, Nat.reduceEqDiff, Nat.reduceMul, Nat.reduceSub, Nat.reducePow, Int.reduceToNat, Int.reduceLE, Int.reduceLT, Int.reduceEq, addWs_own hwr, wrap_succ (show i < 9223372036854775807 by omega), hA'.cells, hA'.tup]
        exact ⟨g', av', hA', rfl⟩
      · rintro st ⟨g, av, hA, hst⟩
        rw [hst]
        generalize gv st = x
        rw [List.take_length] at hA
        have hr : ∀ a b : AObj, reify ((a :: b :: g) :: H) H.length 4 av = some (mkS (blks (l.map newB))) := fun a b => reify_Acc hA rfl (p := [a, b]) rfl (n := 2) (by decide) (blks_scal _)
        simp -dsimp -implicitDefEqProofs only [go_sem, C_P, C_deep, reduceCtorEq, Nat.reduceAdd, Nat.reduceLeDiff, Nat.reduceLT, Nat.reduceEqDiff, Nat.reduceMul, Nat.reduceSub, Nat.reducePow, Int.reduceToNat, Int.reduceLE, Int.reduceLT, Int.reduceEq, hr, hA.cells, hA.tup, len_SV sl_31 hs, ints_len]

/-! ### equal stocks -/
def eqFrom (x y : List Blk) : Nat → Nat → Bool
  | 0, _ => true
  | k + 1, i => (match x[i]?, y[i]? with
    | some a, some b => a.eqb b
    | _, _ => false) && eqFrom x y k (i + 1)
/-- Are two stocks equal? -/
def sameB (m m' : Int) (x y : List Blk) : Bool := m == m' && (x.length == y.length && eqFrom x y x.length 0)
def I24 (x y : List Blk) (m m' : Int) (sx sy : PV) (H : Heap) (i : Nat) (st : St) : Prop :=
  eqFrom x y (x.length - i) i = eqFrom x y x.length 0 ∧
    st = ⟨[.agg [.int .i64 m, sx], .agg [.int .i64 m', sy], .ref H.length 0 0 0 2, .ref H.length 1 0 0 2, .bool false, .int .i64 i, gv st 6, gv st 7, gv st 8, gv st 9, gv st 10, gv st 11, gv st 12, gv st 13, gv st 14, gv st 15, gv st 16, gv st 17, gv st 18, gv st 19, gv st 20, gv st 21, gv st 22, gv st 23, gv st 24, gv st 25, gv st 26, gv st 27, gv st 28, gv st 29, gv st 30, gv st 31, gv st 32, gv st 33, gv st 34, gv st 35, gv st 36, gv st 37],
      [⟨[.int .i64 m, sx], 0, 0⟩, ⟨[.int .i64 m', sy], 0, 0⟩] :: H, []⟩
theorem eqFrom_refl (x : List Blk) : ∀ (k i : Nat), i + k ≤ x.length → eqFrom x x k i = true
  | 0, _, _ => rfl
  | k + 1, i, h => by
    rw [eqFrom, eqFrom_refl x k (i + 1) (by omega), List.getElem?_eq_getElem (show i < x.length by omega)]
    simp [Blk.eqb_refl]
theorem sameB_refl (m : Int) (x : List Blk) : sameB m m x x = true := by
  unfold sameB; rw [eqFrom_refl x _ _ (by omega)]; simp
set_option maxRecDepth 100000 in
theorem same24 {m m' sx sy x y} (hx : SV sx (blks x)) (hy : SV sy (blks y)) (hn : x.length < 9223372036854775807) : Pure C 24 [.agg [.int .i64 m, sx], .agg [.int .i64 m', sy]] (.bool (sameB m m' x y)) := by
  intro H
  refine WC_own (fn := Tryd.f24) Tryd.func24 rfl rfl rfl (Or.inl rfl) ?_; simp only [Tryd.f24, List.replicate, List.length_cons, List.length_nil, Nat.reduceSub, Nat.reduceAdd, List.cons_append, List.nil_append]
  have hdr := dr_24; simp only [drwF, Tryd.f24, drw, cond_true, cond_false, List.append_nil, List.nil_append, List.cons_append, List.map_cons, List.map_nil, List.cons.injEq, and_true] at hdr
  simp -dsimp -implicitDefEqProofs only [go_sem, C_P, C_deep, reduceCtorEq, Nat.reduceAdd, Nat.reduceLeDiff, Nat.reduceLT, Nat.reduceEqDiff, Nat.reduceMul, Nat.reduceSub, Nat.reducePow, Int.reduceToNat, Int.reduceLE, Int.reduceLT, Int.reduceEq]
  unfold sameB
  refine Br_intro (fun h => ?_) (fun h => ?_)
  · simp -dsimp -implicitDefEqProofs only [go_sem, C_P, C_deep, reduceCtorEq, Nat.reduceAdd, Nat.reduceLeDiff, Nat.reduceLT, Nat.reduceEqDiff, Nat.reduceMul, Nat.reduceSub, Nat.reducePow, Int.reduceToNat, Int.reduceLE, Int.reduceLT, Int.reduceEq, h]
    have h' : (m == m') = false := by simpa using h
    rw [h']; rfl
  · have h' : (m == m') = true := by simpa using h
    simp -dsimp -implicitDefEqProofs only [go_sem, C_P, C_deep, reduceCtorEq, Nat.reduceAdd, Nat.reduceLeDiff, Nat.reduceLT, Nat.reduceEqDiff, Nat.reduceMul, Nat.reduceSub, Nat.reducePow, Int.reduceToNat, Int.reduceLE, Int.reduceLT, Int.reduceEq, h, len_SV sl_26 hx, len_SV sl_26 hy, blks_len]
    rw [h', Bool.true_and]
    refine Br_intro (fun h => ?_) (fun h => ?_)
    · simp -dsimp -implicitDefEqProofs only [go_sem, C_P, C_deep, reduceCtorEq, Nat.reduceAdd, Nat.reduceLeDiff, Nat.reduceLT, Nat.reduceEqDiff, Nat.reduceMul, Nat.reduceSub, Nat.reducePow, Int.reduceToNat, Int.reduceLE, Int.reduceLT, Int.reduceEq, h]
      have h' : (x.length == y.length) = false := by simp at h; simp; omega
      rw [h']; rfl
    · have h' : x.length = y.length := by simp at h; omega
      have h'' : (x.length == y.length) = true := by simpa using h'
      simp -dsimp -implicitDefEqProofs only [go_sem, C_P, C_deep, reduceCtorEq, Nat.reduceAdd, Nat.reduceLeDiff, Nat.reduceLT, Nat.reduceEqDiff, Nat.reduceMul, Nat.reduceSub, Nat.reducePow, Int.reduceToNat, Int.reduceLE, Int.reduceLT, Int.reduceEq, h, len_SV sl_26 hx, len_SV sl_26 hy, blks_len]
      rw [h'', Bool.true_and]
      refine WL_for x.length (I24 x y m m' sx sy H) ⟨rfl, rfl⟩ ?_ ?_
      · rintro i st hi ⟨hR, hst⟩
        rw [hst]
        generalize gv st = z
        have hd : decide ((i : Int) < x.length) = true := by simp; omega
        have hxi := List.getElem?_eq_getElem hi
        have hyi := List.getElem?_eq_getElem (show i < y.length by omega)
        have hk : x.length - i = (x.length - (i + 1)) + 1 := by omega
        rw [hk, eqFrom, hxi, hyi] at hR
        simp only [] at hR
        have cl : ∀ b : Blk, b.c.length = 4 := fun _ => rfl
        have ct : ∀ b : Blk, b.c.take 4 = b.c := fun _ => rfl
        simp -dsimp -implicitDefEqProofs only [go_sem, C_P, C_deep, reduceCtorEq, Nat.reduceAdd, Nat.reduceLeDiff, Nat.reduceLT, Nat.reduceEqDiff, Nat.reduceMul, Nat.reduceSub, Nat.reducePow, Int.reduceToNat, Int.reduceLE, Int.reduceLT, Int.reduceEq, hd, len_SV sl_26 hx, blks_len, ↓W_drawnL hdr, index_SV sl_26 hx (blks_get hxi) rfl, index_SV sl_26 hy (blks_get hyi) rfl, cl, ct, neq78]
        refine Br_intro (fun h => ?_) (fun h => ?_)
        · simp -dsimp -implicitDefEqProofs only [go_sem, C_P, C_deep, reduceCtorEq, Nat.reduceAdd, Nat.reduceLeDiff, Nat.reduceLT, Nat.reduceEqDiff, Nat.reduceMul, Nat.reduceSub, Nat.reducePow, Int.reduceToNat, Int.reduceLE, Int.reduceLT, Int.reduceEq]
          rw [← hR, show x[i].eqb y[i] = false by simpa using h]; rfl
        · simp -dsimp -implicitDefEqProofs only [go_sem, C_P, C_deep, reduceCtorEq, Nat.reduceAdd, Nat.reduceLeDiff, Nat.reduceLT, Nat.reduceEqDiff, Nat.reduceMul, Nat.reduceSub, Nat.reducePow, Int.reduceToNat, Int.reduceLE, Int.reduceLT, Int.reduceEq, wrap_succ (show i < 9223372036854775807 by omega)]
          rw [show x[i].eqb y[i] = true by simpa using h, Bool.true_and] at hR
          exact ⟨hR, rfl⟩
      · rintro st ⟨hR, hst⟩
        rw [hst]
        generalize gv st = z
        rw [Nat.sub_self, eqFrom] at hR
        simp -dsimp -implicitDefEqProofs only [go_sem, C_P, C_deep, reduceCtorEq, Nat.reduceAdd, Nat.reduceLeDiff, Nat.reduceLT, Nat.reduceEqDiff, Nat.reduceMul, Nat.reduceSub, Nat.reducePow, Int.reduceToNat, Int.reduceLE, Int.reduceLT, Int.reduceEq, len_SV sl_26 hx, blks_len, ← hR]
end Go.Proofs.YtbcmiddffckgmaaDoor.Am
