/- Membership in lists of numbers, equal lists, right stocks: what the laws ask. -/
import Derived.Test.YtbcmiddffckgmaaDoorJ2
import Derived.Test.YtbcmiddffckgmaaDoorRunChecks
set_option linter.unusedVariables false
set_option linter.unusedSimpArgs false
set_option linter.unnecessarySimpa false
namespace Go.Proofs.YtbcmiddffckgmaaDoor.Am
open Go
def idxI (x : List Nat) (m : Nat) : Int := match x.findIdx? (fun y => decide (m = y)) with
  | some i => (i : Int)
  | none => -1
theorem idxI_hit {x : List Nat} {m i : Nat} (h0 : ∀ k, k < i → x[k]? ≠ some m) (h : x[i]? = some m) : idxI x m = (i : Int) := by
  unfold idxI
  have : x.findIdx? (fun y => decide (m = y)) = some i := by
    rw [List.findIdx?_eq_some_iff_getElem]
    obtain ⟨hi, he⟩ := List.getElem?_eq_some_iff.1 h
    refine ⟨hi, by simp [he], fun j hj => ?_⟩
    have := h0 j hj
    rw [List.getElem?_eq_getElem (by omega)] at this
    simp at this ⊢
    exact fun e => this e.symm
  rw [this]
theorem idxI_miss {x : List Nat} {m : Nat} (h : m ∉ x) : idxI x m = -1 := by
  unfold idxI
  have : x.findIdx? (fun y => decide (m = y)) = none := by
    rw [List.findIdx?_eq_none_iff]
    intro y hy
    simp
    rintro rfl; exact h hy
  rw [this]
theorem idxI_iff {x : List Nat} {m : Nat} : decide (idxI x m ≥ 0) = decide (m ∈ x) := by
  rw [decide_eq_decide]
  constructor
  · intro h
    refine Decidable.byContradiction fun hc => ?_
    rw [idxI_miss hc] at h
    omega
  · intro h
    unfold idxI
    cases hf : x.findIdx? (fun y => decide (m = y)) with
    | some i => simp only []; omega
    | none =>
      rw [List.findIdx?_eq_none_iff] at hf
      have := hf m h
      simp at this
def I58 (x : List Nat) (sv : PV) (m : Nat) (H : Heap) (i : Nat) (st : St) : Prop :=
  (∀ k, k < i → x[k]? ≠ some m) ∧ st = ⟨[sv, .int .i64 (m : Int), gv st 2, gv st 3, .int .i64 0, gv st 5, gv st 6, .int .i64 x.length, .int .i64 (i : Int), gv st 9, gv st 10, gv st 11, gv st 12, gv st 13, gv st 14, gv st 15, gv st 16, gv st 17, gv st 18], [] :: H, []⟩
set_option maxRecDepth 100000 in
theorem index58 {sv} {x : List Nat} {m : Nat} (hs : SV sv (nats x)) (hn : x.length ≤ 512) : Pure C 58 [sv, .int .i64 (m : Int)] (.int .i64 (idxI x m)) := by
  intro H
  refine WC_own (fn := Tryd.f58) Tryd.func58 rfl rfl rfl (Or.inl rfl) ?_; simp only [Tryd.f58, List.replicate, List.length_cons, List.length_nil, Nat.reduceSub, Nat.reduceAdd, List.cons_append, List.nil_append]
  simp -dsimp -implicitDefEqProofs only [go_sem, C_P, C_deep, reduceCtorEq, Nat.reduceAdd, Nat.reduceLeDiff, Nat.reduceLT, Nat.reduceEqDiff, Nat.reduceMul, Nat.reduceSub, Nat.reducePow, Int.reduceToNat, Int.reduceLE, Int.reduceLT, Int.reduceEq, len_SV sl_31 hs, nats_len]
  refine WL_for x.length (I58 x sv m H) ⟨fun k hk => absurd hk (Nat.not_lt_zero k), rfl⟩ ?_ ?_
  · rintro i st hi ⟨h0, hst⟩
    rw [hst]
    generalize gv st = z
    have hd : decide ((i : Int) < x.length) = true := by simp; omega
    obtain ⟨b, hb⟩ : ∃ b, x[i]? = some b := ⟨_, List.getElem?_eq_getElem hi⟩
    simp -dsimp -implicitDefEqProofs only [go_sem, C_P, C_deep, reduceCtorEq, Nat.reduceAdd, Nat.reduceLeDiff, Nat.reduceLT, Nat.reduceEqDiff, Nat.reduceMul, Nat.reduceSub, Nat.reducePow, Int.reduceToNat, Int.reduceLE, Int.reduceLT, Int.reduceEq, hd, index_SV (k := .i64) sl_31 hs (nats_get hb) rfl]
    refine Br_intro (fun h1 => ?_) (fun h1 => ?_)
    · simp -dsimp -implicitDefEqProofs only [go_sem, C_P, C_deep, reduceCtorEq, Nat.reduceAdd, Nat.reduceLeDiff, Nat.reduceLT, Nat.reduceEqDiff, Nat.reduceMul, Nat.reduceSub, Nat.reducePow, Int.reduceToNat, Int.reduceLE, Int.reduceLT, Int.reduceEq]
      have : m = b := by simp at h1; omega
      subst this
      rw [idxI_hit h0 hb]
    · simp -dsimp -implicitDefEqProofs only [go_sem, C_P, C_deep, reduceCtorEq, Nat.reduceAdd, Nat.reduceLeDiff, Nat.reduceLT, Nat.reduceEqDiff, Nat.reduceMul, Nat.reduceSub, Nat.reducePow, Int.reduceToNat, Int.reduceLE, Int.reduceLT, Int.reduceEq, wrap_succ (show i < 9223372036854775807 by omega)]
      refine ⟨fun k hk => ?_, rfl⟩
      rcases Nat.lt_or_ge k i with h2 | h2
      · exact h0 k h2
      · have : k = i := by omega
        subst this
        rw [hb]
        intro hc
        cases hc
        simp at h1
  · rintro st ⟨h0, hst⟩
    rw [hst]
    generalize gv st = z
    have : m ∉ x := by
      intro hc
      obtain ⟨k, hk⟩ := List.mem_iff_getElem?.1 hc
      exact h0 k (List.getElem?_eq_some_iff.1 hk).1 hk
    simp -dsimp -implicitDefEqProofs only [go_sem, C_P, C_deep, reduceCtorEq, Nat.reduceAdd, Nat.reduceLeDiff, Nat.reduceLT, Nat.reduceEqDiff, Nat.reduceMul, Nat.reduceSub, Nat.reducePow, Int.reduceToNat, Int.reduceLE, Int.reduceLT, Int.reduceEq, idxI_miss this]
set_option maxRecDepth 100000 in
theorem contains35 {sv} {x : List Nat} {m : Nat} (hs : SV sv (nats x)) (hn : x.length ≤ 512) : Pure C 35 [sv, .int .i64 (m : Int)] (.bool (decide (m ∈ x))) := by
  intro H
  refine WC_own (fn := Tryd.f35) Tryd.func35 rfl rfl rfl (Or.inl rfl) ?_; simp only [Tryd.f35, List.replicate, List.length_cons, List.length_nil, Nat.reduceSub, Nat.reduceAdd, List.cons_append, List.nil_append]
  simp -dsimp -implicitDefEqProofs only [go_sem, C_P, C_deep, reduceCtorEq, Nat.reduceAdd, Nat.reduceLeDiff, Nat.reduceLT, Nat.reduceEqDiff, Nat.reduceMul, Nat.reduceSub, Nat.reducePow, Int.reduceToNat, Int.reduceLE, Int.reduceLT, Int.reduceEq, WCh_pure (index58 (m := m) hs hn)]
  rw [idxI_iff]
def I37 (x : List Nat) (sx sy : PV) (H : Heap) (i : Nat) (st : St) : Prop :=
  st = ⟨[sx, sy, gv st 2, gv st 3, .bool false, .int .i64 i, gv st 6, gv st 7, gv st 8, gv st 9, gv st 10, gv st 11, gv st 12, gv st 13, gv st 14, gv st 15, gv st 16, gv st 17, gv st 18, gv st 19, gv st 20, gv st 21, gv st 22, gv st 23, gv st 24, gv st 25], [] :: H, []⟩
set_option maxRecDepth 100000 in
theorem same37 {sx sy} {x : List Nat} (hx : SV sx (nats x)) (hy : SV sy (nats x)) (hn : x.length ≤ 512) : Pure C 37 [sx, sy] (.bool true) := by
  intro H
  refine WC_own (fn := Tryd.f37) Tryd.func37 rfl rfl rfl (Or.inl rfl) ?_; simp only [Tryd.f37, List.replicate, List.length_cons, List.length_nil, Nat.reduceSub, Nat.reduceAdd, List.cons_append, List.nil_append]
  have hdr := dr_37; simp only [drwF, Tryd.f37, drw, cond_true, cond_false, List.append_nil, List.nil_append, List.cons_append, List.map_cons, List.map_nil, List.cons.injEq, and_true] at hdr
  simp -dsimp -implicitDefEqProofs only [go_sem, C_P, C_deep, reduceCtorEq, Nat.reduceAdd, Nat.reduceLeDiff, Nat.reduceLT, Nat.reduceEqDiff, Nat.reduceMul, Nat.reduceSub, Nat.reducePow, Int.reduceToNat, Int.reduceLE, Int.reduceLT, Int.reduceEq, len_SV sl_31 hx, len_SV sl_31 hy, nats_len]
  refine WL_for x.length (I37 x sx sy H) rfl ?_ ?_
  · rintro i st hi hst
    rw [I37] at hst
    rw [hst]
    generalize gv st = z
    have hd : decide ((i : Int) < x.length) = true := by simp; omega
    obtain ⟨b, hb⟩ : ∃ b, x[i]? = some b := ⟨_, List.getElem?_eq_getElem hi⟩
    simp -dsimp -implicitDefEqProofs only [go_sem, C_P, C_deep, reduceCtorEq, Nat.reduceAdd, Nat.reduceLeDiff, Nat.reduceLT, Nat.reduceEqDiff, Nat.reduceMul, Nat.reduceSub, Nat.reducePow, Int.reduceToNat, Int.reduceLE, Int.reduceLT, Int.reduceEq, hd, len_SV sl_31 hx, nats_len, ↓W_drawnL hdr, index_SV (k := .i64) sl_31 hx (nats_get hb) rfl, index_SV (k := .i64) sl_31 hy (nats_get hb) rfl, wrap_succ (show i < 9223372036854775807 by omega)]
    exact rfl
  · rintro st hst
    rw [I37] at hst
    rw [hst]
    generalize gv st = z
    simp -dsimp -implicitDefEqProofs only [go_sem, C_P, C_deep, reduceCtorEq, Nat.reduceAdd, Nat.reduceLeDiff, Nat.reduceLT, Nat.reduceEqDiff, Nat.reduceMul, Nat.reduceSub, Nat.reducePow, Int.reduceToNat, Int.reduceLE, Int.reduceLT, Int.reduceEq, len_SV sl_31 hx, nats_len]
/-- A stock is right and small. -/
def rightB (most : Int) (l : List Blk) : Bool := decide (l.length ≤ 8) && decide (chkS most l = 0)
set_option maxRecDepth 100000 in
theorem right33 {most sv l} (hs : SV sv (blks l)) (hw : ∀ b ∈ l, b.who.size ≤ maxL) (hn : l.length * 40 ≤ 140737488355328) : Pure C 33 [.agg [.int .i64 most, sv]] (.bool (rightB most l)) := by
  intro H
  refine WC_own (fn := Tryd.f33) Tryd.func33 rfl rfl rfl (Or.inl rfl) ?_; simp only [Tryd.f33, List.replicate, List.length_cons, List.length_nil, Nat.reduceSub, Nat.reduceAdd, List.cons_append, List.nil_append]
  have ho := own13 (most := most) hs hn
  have hs' := mkS_SV (blks l)
  simp -dsimp -implicitDefEqProofs only [go_sem, C_P, C_deep, reduceCtorEq, Nat.reduceAdd, Nat.reduceLeDiff, Nat.reduceLT, Nat.reduceEqDiff, Nat.reduceMul, Nat.reduceSub, Nat.reducePow, Int.reduceToNat, Int.reduceLE, Int.reduceLT, Int.reduceEq, len_SV sl_22 hs, blks_len]
  unfold rightB
  refine Br_intro (fun h => ?_) (fun h => ?_)
  · simp -dsimp -implicitDefEqProofs only [go_sem, C_P, C_deep, reduceCtorEq, Nat.reduceAdd, Nat.reduceLeDiff, Nat.reduceLT, Nat.reduceEqDiff, Nat.reduceMul, Nat.reduceSub, Nat.reducePow, Int.reduceToNat, Int.reduceLE, Int.reduceLT, Int.reduceEq, h, WCh_pure ho, WCh_pure (chk20 (most := most) hs' hw)]
    have h1 : l.length ≤ 8 := by have := of_decide_eq_true h; omega
    rw [decide_eq_true h1, Bool.true_and]; rfl
  · simp -dsimp -implicitDefEqProofs only [go_sem, C_P, C_deep, reduceCtorEq, Nat.reduceAdd, Nat.reduceLeDiff, Nat.reduceLT, Nat.reduceEqDiff, Nat.reduceMul, Nat.reduceSub, Nat.reducePow, Int.reduceToNat, Int.reduceLE, Int.reduceLT, Int.reduceEq, h]
    have h1 : ¬ l.length ≤ 8 := by have := of_decide_eq_false h; omega
    rw [decide_eq_false h1, Bool.false_and]
end Go.Proofs.YtbcmiddffckgmaaDoor.Am
