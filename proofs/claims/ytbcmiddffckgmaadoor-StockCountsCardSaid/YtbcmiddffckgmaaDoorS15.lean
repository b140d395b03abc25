/- The reference's Calibrate and Replace. -/
import Derived.Test.YtbcmiddffckgmaaDoorS14
set_option linter.unusedVariables false
set_option linter.unusedSimpArgs false
set_option linter.unnecessarySimpa false
namespace Go.Proofs.YtbcmiddffckgmaaDoor.Am
open Go
set_option maxRecDepth 100000 in
theorem with55 {most sv l} {i : Nat} {b : Blk} (hs : SV sv (blks l)) (hn : l.length ≤ 512) (hi : i < l.length) : Pure C 55 [.agg [.int .i64 most, sv], .int .i64 (i : Int), .agg b.c] (.agg [.int .i64 most, mkS (blks (l.set i b))]) := by
  intro H
  refine WC_own (fn := Tryd.f55) Tryd.func55 rfl rfl rfl (Or.inl rfl) ?_; simp only [Tryd.f55, List.replicate, List.length_cons, List.length_nil, Nat.reduceSub, Nat.reduceAdd, List.cons_append, List.nil_append]
  have hdr := dr_55; simp only [drwF, Tryd.f55, drw, cond_true, cond_false, List.append_nil, List.nil_append, List.cons_append, List.map_cons, List.map_nil, List.cons.injEq, and_true] at hdr
  obtain ⟨b0, hb0⟩ : ∃ b0, l[i]? = some b0 := ⟨_, List.getElem?_eq_getElem hi⟩
  have hne : l ≠ [] := by rintro rfl; simp at hi
  have hl0 : ¬ l.length = 0 := by omega
  have hF2 : i * 4 + 4 ≤ (blks l).flatten.length := fl_le (blks_four l) (by rw [blks_len]; exact hi)
  have hF3 := fl_put (sz := 4) (e' := b.c) (blks_four l) (blks_get hb0) rfl
  rw [blks_set] at hF3
  have hF3' : (blks l).flatten.take (i * 4) ++ .int .i64 b.len :: .int .i64 b.wear :: .int .i64 b.uses :: .str b.who :: (blks l).flatten.drop (i * 4 + 4) = (blks (l.set i b)).flatten := hF3
  have hr : ∀ G : List AObj, G[4]? = some ⟨(blks (l.set i b)).flatten, 0, 0⟩ → reify (G :: H) H.length 5 (.sl H.length 4 0 0 l.length 4 false) = some (mkS (blks (l.set i b))) :=
    fun G hG => reify_blk hG (by simp) (by simpa using hne)
  have hap := append_lim sl_26 (H := [⟨[.int .i64 most, sv], 0, 0⟩, ⟨[.int .i64 b.len, .int .i64 b.wear, .int .i64 b.uses, .str b.who], 0, 0⟩, ⟨[.int .i64 0, .nils], 0, 0⟩, ⟨[], 0, 0⟩] :: H) (d := H.length) (i := 3) (src_SV hs (blks_four l))
    (by rw [getO_cons_self]; rfl) (room_ok (m := 512) (by decide) (by rw [blks_len]; exact hn) (by decide))
  unfold Blk.c
  simp -dsimp -implicitDefEqProofs only [go_sem, C_P, C_deep, reduceCtorEq, Nat.reduceAdd, Nat.reduceLeDiff, Nat.reduceLT, Nat.reduceEqDiff, Nat.reduceMul, Nat.reduceSub, Nat.reducePow, Int.reduceToNat, Int.reduceLE, Int.reduceLT, Int.reduceEq, ↓W_drawnL hdr, hap, blks_len, hl0, hi, hF2, hF3', hr, show (0 : Int) ≤ (i : Int) from by omega]
theorem whr_pre {p : Blk → Bool} {l : List Blk} {m n : Nat} (h : m ≤ n) : ∃ t, whr p l n = whr p l m ++ t := by
  unfold whr
  obtain ⟨d, rfl⟩ := Nat.exists_eq_add_of_le h
  rw [List.range_add, List.filter_append]
  exact ⟨_, rfl⟩
def placeI (l : List Blk) (n : Int) : Int := match place l n with
  | some i => (i : Int)
  | none => -1
def I72 (l : List Blk) (most : Int) (sv : PV) (n : Int) (H : Heap) (i : Nat) (st : St) : Prop :=
  whr (lngP n) l i = [] ∧ st = ⟨[.agg [.int .i64 most, sv], .int .i64 n, .ref H.length 0 0 0 2, gv st 3, .int .i64 0, .int .i64 i, gv st 6, gv st 7, gv st 8, gv st 9, gv st 10, gv st 11, gv st 12, gv st 13, gv st 14, gv st 15, gv st 16, gv st 17, gv st 18, gv st 19, gv st 20, gv st 21], [⟨[.int .i64 most, sv], 0, 0⟩] :: H, []⟩
set_option maxRecDepth 100000 in
theorem place72 {most sv l} {n : Int} (hs : SV sv (blks l)) (hn : l.length ≤ 512) : Pure C 72 [.agg [.int .i64 most, sv], .int .i64 n] (.int .i64 (placeI l n)) := by
  intro H
  refine WC_own (fn := Tryd.f72) Tryd.func72 rfl rfl rfl (Or.inl rfl) ?_; simp only [Tryd.f72, List.replicate, List.length_cons, List.length_nil, Nat.reduceSub, Nat.reduceAdd, List.cons_append, List.nil_append]
  simp -dsimp -implicitDefEqProofs only [go_sem, C_P, C_deep, reduceCtorEq, Nat.reduceAdd, Nat.reduceLeDiff, Nat.reduceLT, Nat.reduceEqDiff, Nat.reduceMul, Nat.reduceSub, Nat.reducePow, Int.reduceToNat, Int.reduceLE, Int.reduceLT, Int.reduceEq]
  have hln := len_SV sl_26 hs
  rw [blks_len] at hln
  refine WL_for l.length (I72 l most sv n H) ⟨rfl, rfl⟩ ?_ ?_
  · rintro i st hi ⟨h0, hst⟩
    rw [hst]
    generalize gv st = x
    have hd : decide ((i : Int) < l.length) = true := by simp; omega
    obtain ⟨b, hb⟩ : ∃ b, l[i]? = some b := ⟨_, List.getElem?_eq_getElem hi⟩
    have hbc : (blks l)[i]? = some [.int .i64 b.len, .int .i64 b.wear, .int .i64 b.uses, .str b.who] := blks_get hb
    have hw := whr_succ (p := lngP n) hb
    simp -dsimp -implicitDefEqProofs only [go_sem, C_P, C_deep, reduceCtorEq, Nat.reduceAdd, Nat.reduceLeDiff, Nat.reduceLT, Nat.reduceEqDiff, Nat.reduceMul, Nat.reduceSub, Nat.reducePow, Int.reduceToNat, Int.reduceLE, Int.reduceLT, Int.reduceEq, hln, hd, index_SV (k := .i64) sl_26 hs hbc rfl]
    refine Br_intro (fun h1 => ?_) (fun h1 => ?_)
    · simp -dsimp -implicitDefEqProofs only [go_sem, C_P, C_deep, reduceCtorEq, Nat.reduceAdd, Nat.reduceLeDiff, Nat.reduceLT, Nat.reduceEqDiff, Nat.reduceMul, Nat.reduceSub, Nat.reducePow, Int.reduceToNat, Int.reduceLE, Int.reduceLT, Int.reduceEq]
      rw [h0, if_pos (show lngP n b = true from h1)] at hw
      obtain ⟨t, ht⟩ := whr_pre (p := lngP n) (l := l) (show i + 1 ≤ l.length by omega)
      have hp : place l n = some i := by unfold place; rw [ht, hw]; rfl
      unfold placeI; rw [hp]
    · rw [h0, if_neg (show ¬ lngP n b = true by rw [show lngP n b = false from h1]; simp)] at hw
      simp -dsimp -implicitDefEqProofs only [go_sem, C_P, C_deep, reduceCtorEq, Nat.reduceAdd, Nat.reduceLeDiff, Nat.reduceLT, Nat.reduceEqDiff, Nat.reduceMul, Nat.reduceSub, Nat.reducePow, Int.reduceToNat, Int.reduceLE, Int.reduceLT, Int.reduceEq, wrap_succ (show i < 9223372036854775807 by omega)]
      exact ⟨hw, rfl⟩
  · rintro st ⟨h0, hst⟩
    rw [hst]
    generalize gv st = x
    have hp : place l n = none := by unfold place; rw [h0]; rfl
    simp -dsimp -implicitDefEqProofs only [go_sem, C_P, C_deep, reduceCtorEq, Nat.reduceAdd, Nat.reduceLeDiff, Nat.reduceLT, Nat.reduceEqDiff, Nat.reduceMul, Nat.reduceSub, Nat.reducePow, Int.reduceToNat, Int.reduceLE, Int.reduceLT, Int.reduceEq, hln, placeI, hp]
def restI (most : Int) (l : List Blk) (n : Int) : Int := if restE most l n ≠ 0 then 0 else placeI l n
set_option maxRecDepth 100000 in
theorem rest57 {most sv l} {n : Int} (hs : SV sv (blks l)) (hw : ∀ b ∈ l, b.who.size ≤ maxL) (hn : l.length ≤ 512) : Pure C 57 [.agg [.int .i64 most, sv], .int .i64 n] (.tup [.int .i64 (restI most l n), .int .i64 (restE most l n)]) := by
  intro H
  refine WC_own (fn := Tryd.f57) Tryd.func57 rfl rfl rfl (Or.inl rfl) ?_; simp only [Tryd.f57, List.replicate, List.length_cons, List.length_nil, Nat.reduceSub, Nat.reduceAdd, List.cons_append, List.nil_append]
  simp -dsimp -implicitDefEqProofs only [go_sem, C_P, C_deep, reduceCtorEq, Nat.reduceAdd, Nat.reduceLeDiff, Nat.reduceLT, Nat.reduceEqDiff, Nat.reduceMul, Nat.reduceSub, Nat.reducePow, Int.reduceToNat, Int.reduceLE, Int.reduceLT, Int.reduceEq, WCh_pure (chk20 hs hw)]
  refine Br_intro (fun h => ?_) (fun h => ?_)
  · have h' : chkS most l ≠ 0 := by simpa using h
    have hE : restE most l n = chkS most l := by unfold restE; rw [if_pos h']
    have hI : restI most l n = 0 := by unfold restI; rw [if_pos (by rw [hE]; exact h')]
    simp -dsimp -implicitDefEqProofs only [go_sem, C_P, C_deep, reduceCtorEq, Nat.reduceAdd, Nat.reduceLeDiff, Nat.reduceLT, Nat.reduceEqDiff, Nat.reduceMul, Nat.reduceSub, Nat.reducePow, Int.reduceToNat, Int.reduceLE, Int.reduceLT, Int.reduceEq, hE, hI]
  · have h' : ¬ chkS most l ≠ 0 := by simpa using h
    simp -dsimp -implicitDefEqProofs only [go_sem, C_P, C_deep, reduceCtorEq, Nat.reduceAdd, Nat.reduceLeDiff, Nat.reduceLT, Nat.reduceEqDiff, Nat.reduceMul, Nat.reduceSub, Nat.reducePow, Int.reduceToNat, Int.reduceLE, Int.reduceLT, Int.reduceEq, WCh_pure (place72 hs hn)]
    cases hp : place l n with
    | none =>
      have hE : restE most l n = 6 := by unfold restE; rw [if_neg h', hp]
      have hI : restI most l n = 0 := by unfold restI; rw [if_pos (by rw [hE]; decide)]
      simp -dsimp -implicitDefEqProofs only [go_sem, C_P, C_deep, reduceCtorEq, Nat.reduceAdd, Nat.reduceLeDiff, Nat.reduceLT, Nat.reduceEqDiff, Nat.reduceMul, Nat.reduceSub, Nat.reducePow, Int.reduceToNat, Int.reduceLE, Int.reduceLT, Int.reduceEq, placeI, hp, hE, hI]
    | some i =>
      obtain ⟨b, hb, hil⟩ := place_mem hp
      have hbc : (blks l)[i]? = some [.int .i64 b.len, .int .i64 b.wear, .int .i64 b.uses, .str b.who] := blks_get hb
      have hE : restE most l n = if b.who.size ≠ 0 then 14 else 0 := by unfold restE; rw [if_neg h', hp]; simp only [hb]
      have hlt : decide ((i : Int) < 0) = false := decide_eq_false (by omega)
      simp -dsimp -implicitDefEqProofs only [go_sem, C_P, C_deep, reduceCtorEq, Nat.reduceAdd, Nat.reduceLeDiff, Nat.reduceLT, Nat.reduceEqDiff, Nat.reduceMul, Nat.reduceSub, Nat.reducePow, Int.reduceToNat, Int.reduceLE, Int.reduceLT, Int.reduceEq, placeI, hp, hlt, index_SV (k := .i64) sl_26 hs hbc rfl, str_empty]
      refine Br_intro (fun h1 => ?_) (fun h1 => ?_)
      · have h1' : b.who.size ≠ 0 := by simpa using h1
        rw [if_pos h1'] at hE
        have hI : restI most l n = 0 := by unfold restI; rw [if_pos (by rw [hE]; decide)]
        simp -dsimp -implicitDefEqProofs only [go_sem, C_P, C_deep, reduceCtorEq, Nat.reduceAdd, Nat.reduceLeDiff, Nat.reduceLT, Nat.reduceEqDiff, Nat.reduceMul, Nat.reduceSub, Nat.reducePow, Int.reduceToNat, Int.reduceLE, Int.reduceLT, Int.reduceEq, hE, hI]
      · have h1' : ¬ b.who.size ≠ 0 := by simpa using h1
        rw [if_neg h1'] at hE
        have hI : restI most l n = (i : Int) := by unfold restI placeI; rw [if_neg (by rw [hE]; decide), hp]
        simp -dsimp -implicitDefEqProofs only [go_sem, C_P, C_deep, reduceCtorEq, Nat.reduceAdd, Nat.reduceLeDiff, Nat.reduceLT, Nat.reduceEqDiff, Nat.reduceMul, Nat.reduceSub, Nat.reducePow, Int.reduceToNat, Int.reduceLE, Int.reduceLT, Int.reduceEq, hE, hI]
theorem rest_zero {most l n} (h : restE most l n = 0) : ∃ i b, place l n = some i ∧ l[i]? = some b ∧ i < l.length ∧ restI most l n = (i : Int) := by
  have hI : restI most l n = placeI l n := by unfold restI; rw [if_neg (by simp [h])]
  unfold restE at h
  split at h
  · exact absurd h ‹_›
  · cases hp : place l n with
    | none => rw [hp] at h; simp at h
    | some i =>
      obtain ⟨b, hb, hil⟩ := place_mem hp
      exact ⟨i, b, rfl, hb, hil, by rw [hI]; unfold placeI; rw [hp]⟩
set_option maxRecDepth 100000 in
theorem cal30 {most sv l} {n w : Int} (hs : SV sv (blks l)) (hw : ∀ b ∈ l, b.who.size ≤ maxL) (hn : l.length ≤ 512) : Pure C 30 [.agg [.int .i64 most, sv], .int .i64 n, .int .i64 w] (stkRes (calE most l n w) most (setAt l n fun b => { b with wear := w })) := by
  intro H
  refine WC_own (fn := Tryd.f30) Tryd.func30 rfl rfl rfl (Or.inl rfl) ?_; simp only [Tryd.f30, List.replicate, List.length_cons, List.length_nil, Nat.reduceSub, Nat.reduceAdd, List.cons_append, List.nil_append]
  simp -dsimp -implicitDefEqProofs only [go_sem, C_P, C_deep, reduceCtorEq, Nat.reduceAdd, Nat.reduceLeDiff, Nat.reduceLT, Nat.reduceEqDiff, Nat.reduceMul, Nat.reduceSub, Nat.reducePow, Int.reduceToNat, Int.reduceLE, Int.reduceLT, Int.reduceEq, WCh_pure (rest57 (n := n) hs hw hn)]
  unfold stkRes
  refine Br_intro (fun h => ?_) (fun h => ?_)
  · have h' : restE most l n ≠ 0 := by simpa using h
    have hE : calE most l n w = restE most l n := by unfold calE; rw [if_pos h']
    rw [hE, if_pos h']
    simp -dsimp -implicitDefEqProofs only [go_sem, C_P, C_deep, reduceCtorEq, Nat.reduceAdd, Nat.reduceLeDiff, Nat.reduceLT, Nat.reduceEqDiff, Nat.reduceMul, Nat.reduceSub, Nat.reducePow, Int.reduceToNat, Int.reduceLE, Int.reduceLT, Int.reduceEq]
  · have h' : restE most l n = 0 := by simpa using h
    simp -dsimp -implicitDefEqProofs only [go_sem, C_P, C_deep, reduceCtorEq, Nat.reduceAdd, Nat.reduceLeDiff, Nat.reduceLT, Nat.reduceEqDiff, Nat.reduceMul, Nat.reduceSub, Nat.reducePow, Int.reduceToNat, Int.reduceLE, Int.reduceLT, Int.reduceEq, WCh_pure (len51 _ _)]
    refine Br_intro (fun h2 => ?_) (fun h2 => ?_)
    · have hE : calE most l n w = 2 := by unfold calE; rw [if_neg (by simp [h']), if_pos (by simpa using h2)]
      rw [hE, if_pos (by decide)]
      simp -dsimp -implicitDefEqProofs only [go_sem, C_P, C_deep, reduceCtorEq, Nat.reduceAdd, Nat.reduceLeDiff, Nat.reduceLT, Nat.reduceEqDiff, Nat.reduceMul, Nat.reduceSub, Nat.reducePow, Int.reduceToNat, Int.reduceLE, Int.reduceLT, Int.reduceEq]
    · have hE : calE most l n w = 0 := by unfold calE; rw [if_neg (by simp [h']), if_neg (by simpa using h2)]
      rw [hE, if_neg (by decide)]
      obtain ⟨i, b, hp, hb, hil, hI⟩ := rest_zero h'
      have hbc : (blks l)[i]? = some [.int .i64 b.len, .int .i64 b.wear, .int .i64 b.uses, .str b.who] := blks_get hb
      have hst : setAt l n (fun b => { b with wear := w }) = l.set i { b with wear := w } := by unfold setAt; rw [hp]; simp only [hb]
      have hwith := with55 (most := most) (sv := sv) (b := ({ b with wear := w } : Blk)) hs hn hil
      have hwith' : Pure C 55 [.agg [.int .i64 most, sv], .int .i64 (i : Int), .agg [.int .i64 b.len, .int .i64 w, .int .i64 b.uses, .str b.who]] (.agg [.int .i64 most, mkS (blks (l.set i { b with wear := w }))]) := hwith
      rw [hst]
      simp -dsimp -implicitDefEqProofs only [go_sem, C_P, C_deep, reduceCtorEq, Nat.reduceAdd, Nat.reduceLeDiff, Nat.reduceLT, Nat.reduceEqDiff, Nat.reduceMul, Nat.reduceSub, Nat.reducePow, Int.reduceToNat, Int.reduceLE, Int.reduceLT, Int.reduceEq, hI, index_SV (k := .i64) sl_26 hs hbc rfl, WCh_pure hwith', (mkS_SV (blks (l.set i { b with wear := w }))).cells, (mkS_SV (blks (l.set i { b with wear := w }))).tup, mkS_reify (k := 2) (blks_scal (l.set i { b with wear := w }))]
set_option maxRecDepth 100000 in
theorem rep32 {most sv l} {n : Int} (hs : SV sv (blks l)) (hw : ∀ b ∈ l, b.who.size ≤ maxL) (hn : l.length ≤ 512) : Pure C 32 [.agg [.int .i64 most, sv], .int .i64 n] (stkRes (restE most l n) most (setAt l n fun _ => newB n)) := by
  intro H
  refine WC_own (fn := Tryd.f32) Tryd.func32 rfl rfl rfl (Or.inl rfl) ?_; simp only [Tryd.f32, List.replicate, List.length_cons, List.length_nil, Nat.reduceSub, Nat.reduceAdd, List.cons_append, List.nil_append]
  simp -dsimp -implicitDefEqProofs only [go_sem, C_P, C_deep, reduceCtorEq, Nat.reduceAdd, Nat.reduceLeDiff, Nat.reduceLT, Nat.reduceEqDiff, Nat.reduceMul, Nat.reduceSub, Nat.reducePow, Int.reduceToNat, Int.reduceLE, Int.reduceLT, Int.reduceEq, WCh_pure (rest57 (n := n) hs hw hn)]
  unfold stkRes
  refine Br_intro (fun h => ?_) (fun h => ?_)
  · have h' : restE most l n ≠ 0 := by simpa using h
    rw [if_pos h']
    simp -dsimp -implicitDefEqProofs only [go_sem, C_P, C_deep, reduceCtorEq, Nat.reduceAdd, Nat.reduceLeDiff, Nat.reduceLT, Nat.reduceEqDiff, Nat.reduceMul, Nat.reduceSub, Nat.reducePow, Int.reduceToNat, Int.reduceLE, Int.reduceLT, Int.reduceEq]
  · have h' : restE most l n = 0 := by simpa using h
    rw [if_neg (by simp [h'])]
    obtain ⟨i, b, hp, hb, hil, hI⟩ := rest_zero h'
    have hst : setAt l n (fun _ => newB n) = l.set i (newB n) := by unfold setAt; rw [hp]; simp only [hb]
    have hwith' : Pure C 55 [.agg [.int .i64 most, sv], .int .i64 (i : Int), .agg [.int .i64 n, .int .i64 0, .int .i64 0, .str ByteArray.empty]] (.agg [.int .i64 most, mkS (blks (l.set i (newB n)))]) := with55 (most := most) (sv := sv) (b := newB n) hs hn hil
    rw [hst]
    simp -dsimp -implicitDefEqProofs only [go_sem, C_P, C_deep, reduceCtorEq, Nat.reduceAdd, Nat.reduceLeDiff, Nat.reduceLT, Nat.reduceEqDiff, Nat.reduceMul, Nat.reduceSub, Nat.reducePow, Int.reduceToNat, Int.reduceLE, Int.reduceLT, Int.reduceEq, hI, WCh_pure hwith', (mkS_SV (blks (l.set i (newB n)))).cells, (mkS_SV (blks (l.set i (newB n)))).tup, mkS_reify (k := 2) (blks_scal (l.set i (newB n)))]
end Go.Proofs.YtbcmiddffckgmaaDoor.Am
