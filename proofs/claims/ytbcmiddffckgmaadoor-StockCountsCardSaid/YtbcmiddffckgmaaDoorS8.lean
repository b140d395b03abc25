/- The reference's free and held blocks, and deviations. -/
import Derived.Test.YtbcmiddffckgmaaDoorS7
set_option linter.unusedVariables false
set_option linter.unusedSimpArgs false
set_option linter.unnecessarySimpa false
namespace Go.Proofs.YtbcmiddffckgmaaDoor.Am
open Go
/-- A slice of indices. -/
def nats (l : List Nat) : List (List PV) := l.map fun (n : Nat) => [.int .i64 (n : Int)]
theorem nats_ints (l : List Nat) : nats l = ints (l.map fun (n : Nat) => (n : Int)) := by unfold nats ints; rw [List.map_map]; rfl
theorem nats_len (l : List Nat) : (nats l).length = l.length := by simp [nats]
theorem nats_get {l : List Nat} {i n : Nat} (h : l[i]? = some n) : (nats l)[i]? = some [.int .i64 (n : Int)] := by
  unfold nats; rw [List.getElem?_map, h]; rfl
theorem nats_scal (l : List Nat) : scalL (nats l) = true := by rw [nats_ints]; exact ints_scal _
/-- The blocks, of the first n, for which p holds. -/
def whr (p : Blk → Bool) (l : List Blk) (n : Nat) : List Nat := (List.range n).filter fun i => match l[i]? with
  | some b => p b
  | none => false
theorem whr_zero (p l) : whr p l 0 = [] := rfl
theorem whr_succ {p : Blk → Bool} {l : List Blk} {i : Nat} {b : Blk} (hb : l[i]? = some b) : whr p l (i + 1) = whr p l i ++ if p b = true then [i] else [] := by
  unfold whr
  rw [List.range_succ, List.filter_append]
  congr 1
  rw [List.filter_cons, hb]
  simp only [List.filter_nil]
theorem whr_len (p l n) : (whr p l n).length ≤ n := by
  unfold whr; exact Nat.le_trans (List.length_filter_le _ _) (by simp)
theorem whr_mem {p l n i} (h : i ∈ whr p l n) : i < n ∧ ∃ b, l[i]? = some b ∧ p b = true := by
  unfold whr at h
  rw [List.mem_filter, List.mem_range] at h
  refine ⟨h.1, ?_⟩
  cases hb : l[i]? with
  | none => rw [hb] at h; simp at h
  | some b => rw [hb] at h; exact ⟨b, rfl, h.2⟩
theorem nats_snoc (a : List Nat) (n : Nat) : nats a ++ [[.int .i64 (n : Int)]] = nats (a ++ [n]) := by simp [nats]

def freeP (most : Int) (b : Blk) : Bool := decide (b.who.size = 0) && decide (b.wear ≤ most)
def heldP (who : ByteArray) (b : Blk) : Bool := decide (b.who = who)
def I44 (l : List Blk) (most : Int) (sv : PV) (H : Heap) (i : Nat) (st : St) : Prop :=
  ∃ (g : List AObj) (av : PV), Acc 1 H.length 1 g av (nats (whr (freeP most) l i)) ∧
    st = ⟨[.agg [.int .i64 most, sv], .ref H.length 0 0 0 2, .nils, av, .int .i64 i, gv st 5, gv st 6, gv st 7, gv st 8, gv st 9, gv st 10, gv st 11, gv st 12, gv st 13, gv st 14, gv st 15, gv st 16, gv st 17, gv st 18, gv st 19, gv st 20, gv st 21, gv st 22, gv st 23, gv st 24, gv st 25, gv st 26, gv st 27, gv st 28, gv st 29, gv st 30, gv st 31, gv st 32, gv st 33, gv st 34], (⟨[.int .i64 most, sv], 0, 0⟩ :: g) :: H, []⟩
set_option maxRecDepth 100000 in
theorem avail44 {most sv l} (hs : SV sv (blks l)) (hn : l.length ≤ 512) : Pure C 44 [.agg [.int .i64 most, sv]] (mkS (nats (whr (freeP most) l l.length))) := by
  intro H
  refine WC_own (fn := Tryd.f44) Tryd.func44 rfl rfl rfl (Or.inl rfl) ?_; simp only [Tryd.f44, List.replicate, List.length_cons, List.length_nil, Nat.reduceSub, Nat.reduceAdd, List.cons_append, List.nil_append]
  have hdr := dr_44; simp only [drwF, Tryd.f44, drw, cond_true, cond_false, List.append_nil, List.nil_append, List.cons_append, List.map_cons, List.map_nil, List.cons.injEq, and_true] at hdr
  simp -dsimp -implicitDefEqProofs only [go_sem, C_P, C_deep, reduceCtorEq, Nat.reduceAdd, Nat.reduceLeDiff, Nat.reduceLT, Nat.reduceEqDiff, Nat.reduceMul, Nat.reduceSub, Nat.reducePow, Int.reduceToNat, Int.reduceLE, Int.reduceLT, Int.reduceEq]
  have hln := len_SV sl_26 hs
  rw [blks_len] at hln
  refine WL_for l.length (I44 l most sv H) ⟨[], .nils, Acc_nil, rfl⟩ ?_ ?_
  · rintro i st hi ⟨g, av, hA, hst⟩
    rw [hst]
    generalize gv st = x
    have hd : decide ((i : Int) < l.length) = true := by simp; omega
    obtain ⟨b, hb⟩ : ∃ b, l[i]? = some b := ⟨_, List.getElem?_eq_getElem hi⟩
    have hbc : (blks l)[i]? = some [.int .i64 b.len, .int .i64 b.wear, .int .i64 b.uses, .str b.who] := blks_get hb
    have hv := index_SV (k := .i64) sl_26 hs hbc rfl
    have hw := whr_succ (p := freeP most) hb
    simp -dsimp -implicitDefEqProofs only [go_sem, C_P, C_deep, reduceCtorEq, Nat.reduceAdd, Nat.reduceLeDiff, Nat.reduceLT, Nat.reduceEqDiff, Nat.reduceMul, Nat.reduceSub, Nat.reducePow, Int.reduceToNat, Int.reduceLE, Int.reduceLT, Int.reduceEq, hln, hd, hv, str_empty, ↓W_drawnL hdr]
    refine Br_intro (fun h1 => ?_) (fun h1 => ?_)
    · simp -dsimp -implicitDefEqProofs only [go_sem, C_P, C_deep, reduceCtorEq, Nat.reduceAdd, Nat.reduceLeDiff, Nat.reduceLT, Nat.reduceEqDiff, Nat.reduceMul, Nat.reduceSub, Nat.reducePow, Int.reduceToNat, Int.reduceLE, Int.reduceLT, Int.reduceEq, h1, hv]
      refine Br_intro (fun h2 => ?_) (fun h2 => ?_)
      · simp -dsimp -implicitDefEqProofs only [go_sem, C_P, C_deep, reduceCtorEq, Nat.reduceAdd, Nat.reduceLeDiff, Nat.reduceLT, Nat.reduceEqDiff, Nat.reduceMul, Nat.reduceSub, Nat.reducePow, Int.reduceToNat, Int.reduceLE, Int.reduceLT, Int.reduceEq]
        have hp : freeP most b = true := by unfold freeP; rw [h1, h2]; rfl
        rw [if_pos hp] at hw
        refine WXh_acc sl_31 hA rfl [_] [_] rfl 0 (by omega) rfl rfl (by decide) (room_ok (m := 512) (by decide) (by rw [nats_len]; have := whr_len (freeP most) l i; omega) (by decide)) ?_
        rw [nats_snoc, ← hw]
        intro av' g' wr hA' hwr
        simp -dsimp -implicitDefEqProofs only [go_sem, C_P, C_deep, reduceCtorEq, Nat.reduceAdd, Nat.reduceLeDiff, Nat.reduceLT, Nat.reduceEqDiff, Nat.reduceMul, Nat.reduceSub, Nat.reducePow, Int.reduceToNat, Int.reduceLE, Int.reduceLT, Int.reduceEq, addWs_own hwr, wrap_succ (show i < 9223372036854775807 by omega), hA'.cells, hA'.tup]
        exact ⟨g', av', hA', rfl⟩
      · have hp : ¬ freeP most b = true := by unfold freeP; rw [h1, h2]; simp
        rw [if_neg hp, List.append_nil] at hw
        simp -dsimp -implicitDefEqProofs only [go_sem, C_P, C_deep, reduceCtorEq, Nat.reduceAdd, Nat.reduceLeDiff, Nat.reduceLT, Nat.reduceEqDiff, Nat.reduceMul, Nat.reduceSub, Nat.reducePow, Int.reduceToNat, Int.reduceLE, Int.reduceLT, Int.reduceEq, wrap_succ (show i < 9223372036854775807 by omega)]
        exact ⟨g, av, by rw [hw]; exact hA, rfl⟩
    · have hp : ¬ freeP most b = true := by unfold freeP; rw [h1]; simp
      rw [if_neg hp, List.append_nil] at hw
      simp -dsimp -implicitDefEqProofs only [go_sem, C_P, C_deep, reduceCtorEq, Nat.reduceAdd, Nat.reduceLeDiff, Nat.reduceLT, Nat.reduceEqDiff, Nat.reduceMul, Nat.reduceSub, Nat.reducePow, Int.reduceToNat, Int.reduceLE, Int.reduceLT, Int.reduceEq, h1, wrap_succ (show i < 9223372036854775807 by omega)]
      exact ⟨g, av, by rw [hw]; exact hA, rfl⟩
  · rintro st ⟨g, av, hA, hst⟩
    rw [hst]
    generalize gv st = x
    have hr : ∀ a : AObj, reify ((a :: g) :: H) H.length 6 av = some (mkS (nats (whr (freeP most) l l.length))) := fun a => reify_Acc hA rfl (p := [a]) rfl (n := 4) (by decide) (nats_scal _)
    simp -dsimp -implicitDefEqProofs only [go_sem, C_P, C_deep, reduceCtorEq, Nat.reduceAdd, Nat.reduceLeDiff, Nat.reduceLT, Nat.reduceEqDiff, Nat.reduceMul, Nat.reduceSub, Nat.reducePow, Int.reduceToNat, Int.reduceLE, Int.reduceLT, Int.reduceEq, hln, hr]
def I48 (l : List Blk) (most : Int) (sv : PV) (who : ByteArray) (H : Heap) (i : Nat) (st : St) : Prop :=
  ∃ (g : List AObj) (av : PV), Acc 1 H.length 1 g av (nats (whr (heldP who) l i)) ∧
    st = ⟨[.agg [.int .i64 most, sv], .str who, .ref H.length 0 0 0 2, gv st 3, .nils, av, .int .i64 i, gv st 7, gv st 8, gv st 9, gv st 10, gv st 11, gv st 12, gv st 13, gv st 14, gv st 15, gv st 16, gv st 17, gv st 18, gv st 19, gv st 20, gv st 21, gv st 22, gv st 23, gv st 24, gv st 25, gv st 26], (⟨[.int .i64 most, sv], 0, 0⟩ :: g) :: H, []⟩
set_option maxRecDepth 100000 in
theorem held48 {most sv l} (who : ByteArray) (hs : SV sv (blks l)) (hn : l.length ≤ 512) : Pure C 48 [.agg [.int .i64 most, sv], .str who] (mkS (nats (whr (heldP who) l l.length))) := by
  intro H
  refine WC_own (fn := Tryd.f48) Tryd.func48 rfl rfl rfl (Or.inl rfl) ?_; simp only [Tryd.f48, List.replicate, List.length_cons, List.length_nil, Nat.reduceSub, Nat.reduceAdd, List.cons_append, List.nil_append]
  simp -dsimp -implicitDefEqProofs only [go_sem, C_P, C_deep, reduceCtorEq, Nat.reduceAdd, Nat.reduceLeDiff, Nat.reduceLT, Nat.reduceEqDiff, Nat.reduceMul, Nat.reduceSub, Nat.reducePow, Int.reduceToNat, Int.reduceLE, Int.reduceLT, Int.reduceEq]
  have hln := len_SV sl_26 hs
  rw [blks_len] at hln
  refine WL_for l.length (I48 l most sv who H) ⟨[], .nils, Acc_nil, rfl⟩ ?_ ?_
  · rintro i st hi ⟨g, av, hA, hst⟩
    rw [hst]
    generalize gv st = x
    have hd : decide ((i : Int) < l.length) = true := by simp; omega
    obtain ⟨b, hb⟩ : ∃ b, l[i]? = some b := ⟨_, List.getElem?_eq_getElem hi⟩
    have hbc : (blks l)[i]? = some [.int .i64 b.len, .int .i64 b.wear, .int .i64 b.uses, .str b.who] := blks_get hb
    have hv := index_SV (k := .i64) sl_26 hs hbc rfl
    have hw := whr_succ (p := heldP who) hb
    simp -dsimp -implicitDefEqProofs only [go_sem, C_P, C_deep, reduceCtorEq, Nat.reduceAdd, Nat.reduceLeDiff, Nat.reduceLT, Nat.reduceEqDiff, Nat.reduceMul, Nat.reduceSub, Nat.reducePow, Int.reduceToNat, Int.reduceLE, Int.reduceLT, Int.reduceEq, hln, hd, hv, str_eq]
    refine Br_intro (fun h1 => ?_) (fun h1 => ?_)
    · simp -dsimp -implicitDefEqProofs only [go_sem, C_P, C_deep, reduceCtorEq, Nat.reduceAdd, Nat.reduceLeDiff, Nat.reduceLT, Nat.reduceEqDiff, Nat.reduceMul, Nat.reduceSub, Nat.reducePow, Int.reduceToNat, Int.reduceLE, Int.reduceLT, Int.reduceEq]
      have hp : heldP who b = true := h1
      rw [if_pos hp] at hw
      refine WXh_acc sl_31 hA rfl [_] [_] rfl 0 (by omega) rfl rfl (by decide) (room_ok (m := 512) (by decide) (by rw [nats_len]; have := whr_len (heldP who) l i; omega) (by decide)) ?_
      rw [nats_snoc, ← hw]
      intro av' g' wr hA' hwr
      simp -dsimp -implicitDefEqProofs only [go_sem, C_P, C_deep, reduceCtorEq, Nat.reduceAdd, Nat.reduceLeDiff, Nat.reduceLT, Nat.reduceEqDiff, Nat.reduceMul, Nat.reduceSub, Nat.reducePow, Int.reduceToNat, Int.reduceLE, Int.reduceLT, Int.reduceEq, addWs_own hwr, wrap_succ (show i < 9223372036854775807 by omega), hA'.cells, hA'.tup]
      exact ⟨g', av', hA', rfl⟩
    · have hp : ¬ heldP who b = true := by rw [show heldP who b = false from h1]; simp
      rw [if_neg hp, List.append_nil] at hw
      simp -dsimp -implicitDefEqProofs only [go_sem, C_P, C_deep, reduceCtorEq, Nat.reduceAdd, Nat.reduceLeDiff, Nat.reduceLT, Nat.reduceEqDiff, Nat.reduceMul, Nat.reduceSub, Nat.reducePow, Int.reduceToNat, Int.reduceLE, Int.reduceLT, Int.reduceEq, wrap_succ (show i < 9223372036854775807 by omega)]
      exact ⟨g, av, by rw [hw]; exact hA, rfl⟩
  · rintro st ⟨g, av, hA, hst⟩
    rw [hst]
    generalize gv st = x
    have hr : ∀ a : AObj, reify ((a :: g) :: H) H.length 6 av = some (mkS (nats (whr (heldP who) l l.length))) := fun a => reify_Acc hA rfl (p := [a]) rfl (n := 4) (by decide) (nats_scal _)
    simp -dsimp -implicitDefEqProofs only [go_sem, C_P, C_deep, reduceCtorEq, Nat.reduceAdd, Nat.reduceLeDiff, Nat.reduceLT, Nat.reduceEqDiff, Nat.reduceMul, Nat.reduceSub, Nat.reducePow, Int.reduceToNat, Int.reduceLE, Int.reduceLT, Int.reduceEq, hln, hr]
theorem chkS_len {most l} (h : chkS most l = 0) : l.length ≤ 256 := by
  unfold chkS at h
  split at h
  · omega
  · split at h <;> omega
/-- The free blocks of a right stock, and the error. -/
def freeRes (most : Int) (l : List Blk) : PV := if chkS most l ≠ 0 then .tup [.nils, .int .i64 (chkS most l)] else .tup [mkS (nats (whr (freeP most) l l.length)), .int .i64 0]
theorem mkS_reify {H D k es} (h : scalL es = true) : reify H D (k + 2) (mkS es) = some (mkS es) := reify_SV (mkS_SV es) h
set_option maxRecDepth 100000 in
theorem free16 {most sv l} (hs : SV sv (blks l)) (hw : ∀ b ∈ l, b.who.size ≤ maxL) : Pure C 16 [.agg [.int .i64 most, sv]] (freeRes most l) := by
  intro H
  refine WC_own (fn := Tryd.f16) Tryd.func16 rfl rfl rfl (Or.inl rfl) ?_; simp only [Tryd.f16, List.replicate, List.length_cons, List.length_nil, Nat.reduceSub, Nat.reduceAdd, List.cons_append, List.nil_append]
  simp -dsimp -implicitDefEqProofs only [go_sem, C_P, C_deep, reduceCtorEq, Nat.reduceAdd, Nat.reduceLeDiff, Nat.reduceLT, Nat.reduceEqDiff, Nat.reduceMul, Nat.reduceSub, Nat.reducePow, Int.reduceToNat, Int.reduceLE, Int.reduceLT, Int.reduceEq, WCh_pure (chk20 hs hw)]
  unfold freeRes
  refine Br_intro (fun h => ?_) (fun h => ?_)
  · simp -dsimp -implicitDefEqProofs only [go_sem, C_P, C_deep, reduceCtorEq, Nat.reduceAdd, Nat.reduceLeDiff, Nat.reduceLT, Nat.reduceEqDiff, Nat.reduceMul, Nat.reduceSub, Nat.reducePow, Int.reduceToNat, Int.reduceLE, Int.reduceLT, Int.reduceEq]
    rw [if_pos (by simpa using h)]
  · have h0 : chkS most l = 0 := by simpa using h
    have := chkS_len h0
    rw [if_neg (by simp [h0])]
    simp -dsimp -implicitDefEqProofs only [go_sem, C_P, C_deep, reduceCtorEq, Nat.reduceAdd, Nat.reduceLeDiff, Nat.reduceLT, Nat.reduceEqDiff, Nat.reduceMul, Nat.reduceSub, Nat.reducePow, Int.reduceToNat, Int.reduceLE, Int.reduceLT, Int.reduceEq, WCh_pure (avail44 hs (by omega)), mkS_reify (k := 3) (nats_scal _)]
end Go.Proofs.YtbcmiddffckgmaaDoor.Am
