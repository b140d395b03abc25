/- Events on a stock, and running them. -/
import Derived.Test.YtbcmiddffckgmaaDoorP4
set_option linter.unusedVariables false
set_option linter.unusedSimpArgs false
set_option linter.unnecessarySimpa false
namespace Go.Proofs.YtbcmiddffckgmaaDoor.Am
open Go

/- Events on a stock: one event, the program's and the reference's. -/
structure Ev where
  kind : Int
  who : ByteArray
  len : Int
  wear : Int
def Ev.c (x : Ev) : List PV := [.int .i64 x.kind, .str x.who, .int .i64 x.len, .int .i64 x.wear]
def evs (l : List Ev) : List (List PV) := l.map Ev.c
theorem evs_len (l : List Ev) : (evs l).length = l.length := by simp [evs]
theorem evs_get {l : List Ev} {i : Nat} {x : Ev} (h : l[i]? = some x) : (evs l)[i]? = some [.int .i64 x.kind, .str x.who, .int .i64 x.len, .int .i64 x.wear] := by
  unfold evs; rw [List.getElem?_map, h]; rfl
theorem evs_four (l : List Ev) : ∀ e ∈ evs l, e.length = 4 := by
  intro e he; unfold evs at he; obtain ⟨n, _, rfl⟩ := List.mem_map.1 he; rfl
theorem evs_scal (l : List Ev) : scalL (evs l) = true := by
  unfold scalL; rw [List.all_eq_true]; intro e he; unfold evs at he; obtain ⟨n, _, rfl⟩ := List.mem_map.1 he; rfl
theorem getO_ups {H : Heap} {d i : Nat} {o : AObj} (h : getO H d i = some o) : ∀ fs : Heap, getO (fs ++ H) d i = some o
  | [] => h
  | f :: fs => getO_up (getO_ups h fs) f
theorem BV.sl {H : Heap} {d j : Nat} {l : List Blk} {lim : Bool} (ho : getO H d j = some ⟨(blks l).flatten, 0, 0⟩) : BV H (.sl d j 0 0 l.length 4 lim) l where
  cells := rfl
  tup := rfl
  len := ls_22
  eq := .inl eq22_sl
  src := fun fs => by
    have hf := flatP_len (blks_four l)
    rw [blks_len] at hf
    unfold srcCells
    simp only [getO_ups ho fs, Option.bind_some]
    rw [if_pos ⟨Nat.le_refl _, Nat.le_refl _, trivial, by omega⟩, List.drop_zero, ← hf, List.take_length]
  idx := fun i b hb => by
    have hi := (List.getElem?_eq_some_iff.1 hb).1
    have hle := fl_le (blks_four l) (i := i) (by rw [blks_len]; exact hi)
    have hdr := fl_drop (blks_four l) (blks_get hb)
    have h0 := fl_get (k := 0) (blks_four l) (blks_get hb) (by decide)
    refine ⟨.ref d j 0 (i * 4) (i * 4 + 4), .ref d j 0 (i * 4) (i * 4 + 4), fun k => ?_, fun fs => ?_, ?_, fun fs => ?_⟩
    · rw [ia_22, if_pos ⟨by omega, by rw [Int.toNat_natCast]; exact hi, rfl⟩, Int.toNat_natCast, Nat.zero_add]
    · rw [lda_66, getO_ups ho fs]
      simp only [Option.bind_some]
      rw [if_pos ⟨Nat.le_refl _, Nat.le_refl _, Nat.le_refl _, hle⟩, hdr]; rfl
    · rw [fa_66_0]; rfl
    · rw [ld_3, getO_ups ho fs]
      simp only [Option.bind_some]
      rw [if_pos ⟨Nat.le_refl _, Nat.le_refl _, by omega, hle⟩]
      exact h0
/-! ### one event -/
def sM (e most : Int) : Int := if e ≠ 0 then 0 else most
def sL (e : Int) (l : List Blk) : List Blk := if e ≠ 0 then [] else l
def sO (e : Int) (o : List Nat) : List Nat := if e ≠ 0 then [] else o
theorem stkRes_eq (e most : Int) (l : List Blk) : stkRes e most l = .tup [.agg [.int .i64 (sM e most), mkS (blks (sL e l))], .int .i64 e] := by
  unfold sM sL
  by_cases h : e = 0
  · subst h; rw [if_neg (by decide), if_neg (by decide)]; exact stkRes_ok
  · rw [if_pos h, if_pos h]; exact stkRes_bad h
theorem takeRes_eq (most : Int) (l : List Blk) (who : ByteArray) (n : Int) : takeRes most l who n = .tup [.agg [.int .i64 (sM (takeE most l who n) most), mkS (blks (sL (takeE most l who n) (takeL most l who n)))], mkS (nats (sO (takeE most l who n) (takeO most l n))), .int .i64 (takeE most l who n)] := by
  unfold sM sL sO
  by_cases h : takeE most l who n = 0
  · rw [h, if_neg (by decide), if_neg (by decide), if_neg (by decide)]; exact takeRes_ok h
  · rw [if_pos h, if_pos h, if_pos h]; exact takeRes_bad h
def doneE (most : Int) (l : List Blk) (x : Ev) : Int := if x.kind = 0 then takeE most l x.who x.len else if x.kind = 1 then retE most l x.who x.wear else if x.kind = 2 then calE most l x.len x.wear else if x.kind = 3 then restE most l x.len else 1
def doneL (most : Int) (l : List Blk) (x : Ev) : List Blk := if x.kind = 0 then takeL most l x.who x.len else if x.kind = 1 then retL l x.who x.wear else if x.kind = 2 then setAt l x.len (fun b => { b with wear := x.wear }) else if x.kind = 3 then setAt l x.len (fun _ => newB x.len) else []
set_option maxHeartbeats 2000000 in
set_option maxRecDepth 100000 in
theorem done61h {H : Heap} {most sv l} {x : Ev} (hs : BV H sv l) (hw : ∀ b ∈ l, b.who.size ≤ maxL) (hm : x.who.size ≤ maxL) (hn : l.length ≤ 512) :
    WC C 61 [.agg [.int .i64 most, sv], .agg [.int .i64 x.kind, .str x.who, .int .i64 x.len, .int .i64 x.wear]] H fun v' H' d => v' = stkRes (doneE most l x) most (doneL most l x) ∧ H' = H ∧ d = [] := by
  have h25 : ∀ (g : List AObj) (K : PV → Heap → Wr → Prop) (t : Hold K), WCh C 25 [.agg [.int .i64 most, sv], .str x.who, .int .i64 x.len] (g :: H) K t = K (takeRes most l x.who x.len) (g :: H) [] := fun g K t => WCh_keep (take25h (hs.up g) hw hm hn)
  have h27 : ∀ (g : List AObj) (K : PV → Heap → Wr → Prop) (t : Hold K), WCh C 27 [.agg [.int .i64 most, sv], .str x.who, .int .i64 x.wear] (g :: H) K t = K (stkRes (retE most l x.who x.wear) most (retL l x.who x.wear)) (g :: H) [] := fun g K t => WCh_keep (ret27h (hs.up g) hw hm hn)
  have h29 : ∀ (g : List AObj) (K : PV → Heap → Wr → Prop) (t : Hold K), WCh C 29 [.agg [.int .i64 most, sv], .int .i64 x.len, .int .i64 x.wear] (g :: H) K t = K (stkRes (calE most l x.len x.wear) most (setAt l x.len fun b => { b with wear := x.wear })) (g :: H) [] := fun g K t => WCh_keep (cal29h (hs.up g) hw hn)
  have h31 : ∀ (g : List AObj) (K : PV → Heap → Wr → Prop) (t : Hold K), WCh C 31 [.agg [.int .i64 most, sv], .int .i64 x.len] (g :: H) K t = K (stkRes (restE most l x.len) most (setAt l x.len fun _ => newB x.len)) (g :: H) [] := fun g K t => WCh_keep (rep31h (hs.up g) hw hn)
  refine WC_own (fn := Tryd.f61) Tryd.func61 rfl rfl rfl (Or.inl rfl) ?_; simp only [Tryd.f61, List.replicate, List.length_cons, List.length_nil, Nat.reduceSub, Nat.reduceAdd, List.cons_append, List.nil_append]
  simp -dsimp -implicitDefEqProofs only [go_sem, C_P, C_deep, reduceCtorEq, Nat.reduceAdd, Nat.reduceLeDiff, Nat.reduceLT, Nat.reduceEqDiff, Nat.reduceMul, Nat.reduceSub, Nat.reducePow, Int.reduceToNat, Int.reduceLE, Int.reduceLT, Int.reduceEq]
  refine Br_intro (fun h0 => ?_) (fun h0 => ?_)
  · have k0 : x.kind = 0 := by simpa using h0
    rw [stkRes_eq]
    unfold doneE doneL
    rw [if_pos k0, if_pos k0]
    simp -dsimp -implicitDefEqProofs only [go_sem, C_P, C_deep, reduceCtorEq, Nat.reduceAdd, Nat.reduceLeDiff, Nat.reduceLT, Nat.reduceEqDiff, Nat.reduceMul, Nat.reduceSub, Nat.reducePow, Int.reduceToNat, Int.reduceLE, Int.reduceLT, Int.reduceEq, h25, takeRes_eq, (mkS_SV (blks (sL (takeE most l x.who x.len) (takeL most l x.who x.len)))).cells, (mkS_SV (blks (sL (takeE most l x.who x.len) (takeL most l x.who x.len)))).tup, (mkS_SV (nats (sO (takeE most l x.who x.len) (takeO most l x.len)))).tup, mkS_reify (blks_scal _)]
  · have k0 : ¬ x.kind = 0 := by simpa using h0
    simp -dsimp -implicitDefEqProofs only [go_sem, C_P, C_deep, reduceCtorEq, Nat.reduceAdd, Nat.reduceLeDiff, Nat.reduceLT, Nat.reduceEqDiff, Nat.reduceMul, Nat.reduceSub, Nat.reducePow, Int.reduceToNat, Int.reduceLE, Int.reduceLT, Int.reduceEq]
    refine Br_intro (fun h1 => ?_) (fun h1 => ?_)
    · have k1 : x.kind = 1 := by simpa using h1
      rw [stkRes_eq]
      unfold doneE doneL
      rw [if_neg k0, if_neg k0, if_pos k1, if_pos k1]
      simp -dsimp -implicitDefEqProofs only [go_sem, C_P, C_deep, reduceCtorEq, Nat.reduceAdd, Nat.reduceLeDiff, Nat.reduceLT, Nat.reduceEqDiff, Nat.reduceMul, Nat.reduceSub, Nat.reducePow, Int.reduceToNat, Int.reduceLE, Int.reduceLT, Int.reduceEq, h27, stkRes_eq, (mkS_SV (blks (sL (retE most l x.who x.wear) (retL l x.who x.wear)))).cells, (mkS_SV (blks (sL (retE most l x.who x.wear) (retL l x.who x.wear)))).tup, mkS_reify (blks_scal _)]
    · have k1 : ¬ x.kind = 1 := by simpa using h1
      simp -dsimp -implicitDefEqProofs only [go_sem, C_P, C_deep, reduceCtorEq, Nat.reduceAdd, Nat.reduceLeDiff, Nat.reduceLT, Nat.reduceEqDiff, Nat.reduceMul, Nat.reduceSub, Nat.reducePow, Int.reduceToNat, Int.reduceLE, Int.reduceLT, Int.reduceEq]
      refine Br_intro (fun h2 => ?_) (fun h2 => ?_)
      · have k2 : x.kind = 2 := by simpa using h2
        rw [stkRes_eq]
        unfold doneE doneL
        rw [if_neg k0, if_neg k0, if_neg k1, if_neg k1, if_pos k2, if_pos k2]
        generalize (setAt l x.len fun b => { b with wear := x.wear }) = L at h29 ⊢
        simp -dsimp -implicitDefEqProofs only [go_sem, C_P, C_deep, reduceCtorEq, Nat.reduceAdd, Nat.reduceLeDiff, Nat.reduceLT, Nat.reduceEqDiff, Nat.reduceMul, Nat.reduceSub, Nat.reducePow, Int.reduceToNat, Int.reduceLE, Int.reduceLT, Int.reduceEq, h29, stkRes_eq, (mkS_SV (blks (sL (calE most l x.len x.wear) L))).cells, (mkS_SV (blks (sL (calE most l x.len x.wear) L))).tup, mkS_reify (blks_scal _)]
      · have k2 : ¬ x.kind = 2 := by simpa using h2
        simp -dsimp -implicitDefEqProofs only [go_sem, C_P, C_deep, reduceCtorEq, Nat.reduceAdd, Nat.reduceLeDiff, Nat.reduceLT, Nat.reduceEqDiff, Nat.reduceMul, Nat.reduceSub, Nat.reducePow, Int.reduceToNat, Int.reduceLE, Int.reduceLT, Int.reduceEq]
        refine Br_intro (fun h3 => ?_) (fun h3 => ?_)
        · have k3 : x.kind = 3 := by simpa using h3
          rw [stkRes_eq]
          unfold doneE doneL
          rw [if_neg k0, if_neg k0, if_neg k1, if_neg k1, if_neg k2, if_neg k2, if_pos k3, if_pos k3]
          generalize (setAt l x.len fun _ => newB x.len) = L at h31 ⊢
          simp -dsimp -implicitDefEqProofs only [go_sem, C_P, C_deep, reduceCtorEq, Nat.reduceAdd, Nat.reduceLeDiff, Nat.reduceLT, Nat.reduceEqDiff, Nat.reduceMul, Nat.reduceSub, Nat.reducePow, Int.reduceToNat, Int.reduceLE, Int.reduceLT, Int.reduceEq, h31, stkRes_eq, (mkS_SV (blks (sL (restE most l x.len) L))).cells, (mkS_SV (blks (sL (restE most l x.len) L))).tup, mkS_reify (blks_scal _)]
        · have k3 : ¬ x.kind = 3 := by simpa using h3
          have hE : doneE most l x = 1 := by unfold doneE; rw [if_neg k0, if_neg k1, if_neg k2, if_neg k3]
          rw [hE, stkRes_bad (by decide)]
          simp -dsimp -implicitDefEqProofs only [go_sem, C_P, C_deep, reduceCtorEq, Nat.reduceAdd, Nat.reduceLeDiff, Nat.reduceLT, Nat.reduceEqDiff, Nat.reduceMul, Nat.reduceSub, Nat.reducePow, Int.reduceToNat, Int.reduceLE, Int.reduceLT, Int.reduceEq]
set_option maxHeartbeats 2000000 in
set_option maxRecDepth 100000 in
theorem done62 {most sv l} {x : Ev} (hs : SV sv (blks l)) (hw : ∀ b ∈ l, b.who.size ≤ maxL) (hm : x.who.size ≤ maxL) (hn : l.length ≤ 8 ∨ chkS most l ≠ 0) (hn' : l.length ≤ 512) :
    Pure C 62 [.agg [.int .i64 most, sv], .agg [.int .i64 x.kind, .str x.who, .int .i64 x.len, .int .i64 x.wear]] (stkRes (doneE most l x) most (doneL most l x)) := by
  intro H
  have h25 := fun (g : List AObj) (K : PV → Heap → Wr → Prop) (t : Hold K) => WCh_pure (take26 (most := most) (who := x.who) (n := x.len) hs hw hm hn) (H := g :: H) (K := K) (t := t)
  have h27 := fun (g : List AObj) (K : PV → Heap → Wr → Prop) (t : Hold K) => WCh_pure (ret28 (most := most) (who := x.who) (w := x.wear) hs hw hm) (H := g :: H) (K := K) (t := t)
  have h29 := fun (g : List AObj) (K : PV → Heap → Wr → Prop) (t : Hold K) => WCh_pure (cal30 (most := most) (n := x.len) (w := x.wear) hs hw hn') (H := g :: H) (K := K) (t := t)
  have h31 := fun (g : List AObj) (K : PV → Heap → Wr → Prop) (t : Hold K) => WCh_pure (rep32 (most := most) (n := x.len) hs hw hn') (H := g :: H) (K := K) (t := t)
  refine WC_own (fn := Tryd.f62) Tryd.func62 rfl rfl rfl (Or.inl rfl) ?_; simp only [Tryd.f62, List.replicate, List.length_cons, List.length_nil, Nat.reduceSub, Nat.reduceAdd, List.cons_append, List.nil_append]
  simp -dsimp -implicitDefEqProofs only [go_sem, C_P, C_deep, reduceCtorEq, Nat.reduceAdd, Nat.reduceLeDiff, Nat.reduceLT, Nat.reduceEqDiff, Nat.reduceMul, Nat.reduceSub, Nat.reducePow, Int.reduceToNat, Int.reduceLE, Int.reduceLT, Int.reduceEq]
  refine Br_intro (fun h0 => ?_) (fun h0 => ?_)
  · have k0 : x.kind = 0 := by simpa using h0
    rw [stkRes_eq]
    unfold doneE doneL
    rw [if_pos k0, if_pos k0]
    simp -dsimp -implicitDefEqProofs only [go_sem, C_P, C_deep, reduceCtorEq, Nat.reduceAdd, Nat.reduceLeDiff, Nat.reduceLT, Nat.reduceEqDiff, Nat.reduceMul, Nat.reduceSub, Nat.reducePow, Int.reduceToNat, Int.reduceLE, Int.reduceLT, Int.reduceEq, h25, takeRes_eq, (mkS_SV (blks (sL (takeE most l x.who x.len) (takeL most l x.who x.len)))).cells, (mkS_SV (blks (sL (takeE most l x.who x.len) (takeL most l x.who x.len)))).tup, (mkS_SV (nats (sO (takeE most l x.who x.len) (takeO most l x.len)))).tup, mkS_reify (blks_scal _)]
  · have k0 : ¬ x.kind = 0 := by simpa using h0
    simp -dsimp -implicitDefEqProofs only [go_sem, C_P, C_deep, reduceCtorEq, Nat.reduceAdd, Nat.reduceLeDiff, Nat.reduceLT, Nat.reduceEqDiff, Nat.reduceMul, Nat.reduceSub, Nat.reducePow, Int.reduceToNat, Int.reduceLE, Int.reduceLT, Int.reduceEq]
    refine Br_intro (fun h1 => ?_) (fun h1 => ?_)
    · have k1 : x.kind = 1 := by simpa using h1
      rw [stkRes_eq]
      unfold doneE doneL
      rw [if_neg k0, if_neg k0, if_pos k1, if_pos k1]
      simp -dsimp -implicitDefEqProofs only [go_sem, C_P, C_deep, reduceCtorEq, Nat.reduceAdd, Nat.reduceLeDiff, Nat.reduceLT, Nat.reduceEqDiff, Nat.reduceMul, Nat.reduceSub, Nat.reducePow, Int.reduceToNat, Int.reduceLE, Int.reduceLT, Int.reduceEq, h27, stkRes_eq, (mkS_SV (blks (sL (retE most l x.who x.wear) (retL l x.who x.wear)))).cells, (mkS_SV (blks (sL (retE most l x.who x.wear) (retL l x.who x.wear)))).tup, mkS_reify (blks_scal _)]
    · have k1 : ¬ x.kind = 1 := by simpa using h1
      simp -dsimp -implicitDefEqProofs only [go_sem, C_P, C_deep, reduceCtorEq, Nat.reduceAdd, Nat.reduceLeDiff, Nat.reduceLT, Nat.reduceEqDiff, Nat.reduceMul, Nat.reduceSub, Nat.reducePow, Int.reduceToNat, Int.reduceLE, Int.reduceLT, Int.reduceEq]
      refine Br_intro (fun h2 => ?_) (fun h2 => ?_)
      · have k2 : x.kind = 2 := by simpa using h2
        rw [stkRes_eq]
        unfold doneE doneL
        rw [if_neg k0, if_neg k0, if_neg k1, if_neg k1, if_pos k2, if_pos k2]
        generalize (setAt l x.len fun b => { b with wear := x.wear }) = L at h29 ⊢
        simp -dsimp -implicitDefEqProofs only [go_sem, C_P, C_deep, reduceCtorEq, Nat.reduceAdd, Nat.reduceLeDiff, Nat.reduceLT, Nat.reduceEqDiff, Nat.reduceMul, Nat.reduceSub, Nat.reducePow, Int.reduceToNat, Int.reduceLE, Int.reduceLT, Int.reduceEq, h29, stkRes_eq, (mkS_SV (blks (sL (calE most l x.len x.wear) L))).cells, (mkS_SV (blks (sL (calE most l x.len x.wear) L))).tup, mkS_reify (blks_scal _)]
      · have k2 : ¬ x.kind = 2 := by simpa using h2
        simp -dsimp -implicitDefEqProofs only [go_sem, C_P, C_deep, reduceCtorEq, Nat.reduceAdd, Nat.reduceLeDiff, Nat.reduceLT, Nat.reduceEqDiff, Nat.reduceMul, Nat.reduceSub, Nat.reducePow, Int.reduceToNat, Int.reduceLE, Int.reduceLT, Int.reduceEq]
        refine Br_intro (fun h3 => ?_) (fun h3 => ?_)
        · have k3 : x.kind = 3 := by simpa using h3
          rw [stkRes_eq]
          unfold doneE doneL
          rw [if_neg k0, if_neg k0, if_neg k1, if_neg k1, if_neg k2, if_neg k2, if_pos k3, if_pos k3]
          generalize (setAt l x.len fun _ => newB x.len) = L at h31 ⊢
          simp -dsimp -implicitDefEqProofs only [go_sem, C_P, C_deep, reduceCtorEq, Nat.reduceAdd, Nat.reduceLeDiff, Nat.reduceLT, Nat.reduceEqDiff, Nat.reduceMul, Nat.reduceSub, Nat.reducePow, Int.reduceToNat, Int.reduceLE, Int.reduceLT, Int.reduceEq, h31, stkRes_eq, (mkS_SV (blks (sL (restE most l x.len) L))).cells, (mkS_SV (blks (sL (restE most l x.len) L))).tup, mkS_reify (blks_scal _)]
        · have k3 : ¬ x.kind = 3 := by simpa using h3
          have hE : doneE most l x = 1 := by unfold doneE; rw [if_neg k0, if_neg k1, if_neg k2, if_neg k3]
          rw [hE, stkRes_bad (by decide)]
          simp -dsimp -implicitDefEqProofs only [go_sem, C_P, C_deep, reduceCtorEq, Nat.reduceAdd, Nat.reduceLeDiff, Nat.reduceLT, Nat.reduceEqDiff, Nat.reduceMul, Nat.reduceSub, Nat.reducePow, Int.reduceToNat, Int.reduceLE, Int.reduceLT, Int.reduceEq]

theorem done_ok {most : Int} {l : List Blk} {x : Ev} (h : doneE most l x = 0) : SOK most (doneL most l x) ∧ lens (doneL most l x) = lens l := by
  unfold doneE at h
  unfold doneL
  split at h
  · rename_i h0; rw [if_pos h0]; exact ⟨takeL_ok h, takeL_lens h⟩
  · rename_i h0
    rw [if_neg h0]
    split at h
    · rename_i h1; rw [if_pos h1]; exact ret_ok h
    · rename_i h1
      rw [if_neg h1]
      split at h
      · rename_i h2; rw [if_pos h2]; exact cal_ok h
      · rename_i h2
        rw [if_neg h2]
        split at h
        · rename_i h3; rw [if_pos h3]; exact rep_ok h
        · cases h
theorem lens_len {l l' : List Blk} (h : lens l' = lens l) : l'.length = l.length := by
  have := congrArg List.length h; simpa [lens] using this
/-- The error, the index and the stock behind events, from the index on. -/
def runE (most : Int) : List Blk → List Ev → Nat → Int × Nat × List Blk
  | l, [], _ => (0, 0, l)
  | l, x :: xs, i => if doneE most l x ≠ 0 then (doneE most l x, i, []) else runE most (doneL most l x) xs (i + 1)
def runR (most : Int) (l : List Blk) (xs : List Ev) : Int × Nat × List Blk :=
  if chkS most l ≠ 0 then (chkS most l, 0, []) else if xs.length > 4096 then (5, 0, []) else runE most l xs 0
theorem runE_ok {most : Int} : ∀ {xs : List Ev} {l : List Blk} {i : Nat}, SOK most l → (runE most l xs i).1 = 0 → SOK most (runE most l xs i).2.2 ∧ lens (runE most l xs i).2.2 = lens l
  | [], l, i, h, _ => ⟨h, rfl⟩
  | x :: xs, l, i, h, he => by
    rw [runE] at he ⊢
    split at he
    · rename_i h1; exact absurd he h1
    · rename_i h1
      rw [if_neg h1]
      obtain ⟨g1, g2⟩ := done_ok (show doneE most l x = 0 by simpa using h1)
      obtain ⟨g3, g4⟩ := runE_ok g1 he
      exact ⟨g3, g4.trans g2⟩
theorem runE_bad {most : Int} : ∀ {xs : List Ev} {l : List Blk} {i : Nat}, (runE most l xs i).1 ≠ 0 → (runE most l xs i).2.2 = []
  | [], l, i, he => absurd rfl he
  | x :: xs, l, i, he => by
    rw [runE] at he ⊢
    split at he
    · rename_i h1; rw [if_pos h1]
    · rename_i h1
      rw [if_neg h1]
      exact runE_bad he
theorem runE_len {most : Int} {xs : List Ev} {l : List Blk} {i : Nat} (h : SOK most l) : (runE most l xs i).2.2.length ≤ l.length := by
  by_cases he : (runE most l xs i).1 = 0
  · rw [lens_len (runE_ok h he).2]; exact Nat.le_refl _
  · rw [runE_bad he]; simp
theorem runR_len {most : Int} {xs : List Ev} {l : List Blk} : (runR most l xs).2.2.length ≤ l.length := by
  unfold runR
  split
  · simp
  · rename_i h
    split
    · simp
    · exact runE_len (chkS_zero.1 (by simpa using h))
theorem evs39 {sv} {xs : List Ev} (hs : SV sv (evs xs)) (hn : xs.length * 40 ≤ 140737488355328) : Pure C 39 [sv] (mkS (evs xs)) := by
  intro H
  refine WC_own (fn := Tryd.f39) Tryd.func39 rfl rfl rfl (Or.inl rfl) ?_; simp only [Tryd.f39, List.replicate, List.length_cons, List.length_nil, Nat.reduceSub, Nat.reduceAdd, List.cons_append, List.nil_append]
  simp -dsimp -implicitDefEqProofs only [go_sem, C_P, C_deep, reduceCtorEq, Nat.reduceAdd, Nat.reduceLeDiff, Nat.reduceLT, Nat.reduceEqDiff, Nat.reduceMul, Nat.reduceSub, Nat.reducePow, Int.reduceToNat, Int.reduceLE, Int.reduceLT, Int.reduceEq, len_SV sl_69 hs, evs_len]
  refine WL_for xs.length (fun i st => ∃ (g : List AObj) (av : PV), Acc 4 H.length 0 g av ((evs xs).take i) ∧
    st = ⟨[sv, gv st 1, .nils, av, gv st 4, gv st 5, sv, .int .i64 xs.length, .int .i64 (i : Int), gv st 9, gv st 10, gv st 11, gv st 12, gv st 13, gv st 14, gv st 15, gv st 16, gv st 17], g :: H, []⟩) ⟨[], .nils, Acc_nil, rfl⟩ ?_ ?_
  · rintro i st hi ⟨g, av, hA, hst⟩
    rw [hst]
    generalize gv st = z
    have hd : decide ((i : Int) < xs.length) = true := by simp; omega
    obtain ⟨x, hx⟩ : ∃ x, xs[i]? = some x := ⟨_, List.getElem?_eq_getElem hi⟩
    have hxc := evs_get hx
    simp -dsimp -implicitDefEqProofs only [go_sem, C_P, C_deep, reduceCtorEq, Nat.reduceAdd, Nat.reduceLeDiff, Nat.reduceLT, Nat.reduceEqDiff, Nat.reduceMul, Nat.reduceSub, Nat.reducePow, Int.reduceToNat, Int.reduceLE, Int.reduceLT, Int.reduceEq, hd, index_SV (k := .i64) sl_69 hs hxc rfl]
    refine WXh_acc sl_71 hA rfl [] [_, _] rfl 1 (by omega) rfl rfl (by decide) (room_ok (by decide) (by rw [List.length_take, evs_len]; omega) hn) ?_
    rw [take_snoc hxc]
    intro av' g' wr hA' hwr
    simp -dsimp -implicitDefEqProofs only [go_sem, C_P, C_deep, reduceCtorEq, Nat.reduceAdd, Nat.reduceLeDiff, Nat.reduceLT, Nat.reduceEqDiff, Nat.reduceMul, Nat.reduceSub, Nat.reducePow, Int.reduceToNat, Int.reduceLE, Int.reduceLT, Int.reduceEq, addWs_own hwr, wrap_succ (show i < 9223372036854775807 by omega), hA'.cells, hA'.tup]
    exact ⟨g', av', hA', rfl⟩
  · rintro st ⟨g, av, hA, hst⟩
    rw [hst]
    generalize gv st = z
    rw [← evs_len, List.take_length] at hA
    have hr : reify (g :: H) H.length 6 av = some (mkS (evs xs)) := reify_Acc hA rfl (p := []) rfl (n := 4) (by decide) (evs_scal _)
    simp -dsimp -implicitDefEqProofs only [go_sem, C_P, C_deep, reduceCtorEq, Nat.reduceAdd, Nat.reduceLeDiff, Nat.reduceLT, Nat.reduceEqDiff, Nat.reduceMul, Nat.reduceSub, Nat.reducePow, Int.reduceToNat, Int.reduceLE, Int.reduceLT, Int.reduceEq, hr]
def fewEv (n : Nat) : Bool := decide (n ≤ 24) || decide (n > 4096) && decide (n ≤ 8192)
theorem few38 {sv} {xs : List Ev} (hs : SV sv (evs xs)) : Pure C 38 [sv] (.bool (fewEv xs.length)) := by
  intro H
  refine WC_own (fn := Tryd.f38) Tryd.func38 rfl rfl rfl (Or.inl rfl) ?_; simp only [Tryd.f38, List.replicate, List.length_cons, List.length_nil, Nat.reduceSub, Nat.reduceAdd, List.cons_append, List.nil_append]
  simp -dsimp -implicitDefEqProofs only [go_sem, C_P, C_deep, reduceCtorEq, Nat.reduceAdd, Nat.reduceLeDiff, Nat.reduceLT, Nat.reduceEqDiff, Nat.reduceMul, Nat.reduceSub, Nat.reducePow, Int.reduceToNat, Int.reduceLE, Int.reduceLT, Int.reduceEq, len_SV sl_71 hs, evs_len]
  have e1 : decide ((xs.length : Int) ≤ 24) = decide (xs.length ≤ 24) := by rw [decide_eq_decide]; omega
  have e2 : decide ((xs.length : Int) > 4096) = decide (xs.length > 4096) := by rw [decide_eq_decide]; omega
  have e3 : decide ((xs.length : Int) ≤ 8192) = decide (xs.length ≤ 8192) := by rw [decide_eq_decide]; omega
  unfold fewEv
  refine Br_intro (fun h => ?_) (fun h => ?_)
  · simp -dsimp -implicitDefEqProofs only [go_sem, C_P, C_deep, reduceCtorEq, Nat.reduceAdd, Nat.reduceLeDiff, Nat.reduceLT, Nat.reduceEqDiff, Nat.reduceMul, Nat.reduceSub, Nat.reducePow, Int.reduceToNat, Int.reduceLE, Int.reduceLT, Int.reduceEq, h]
    rw [← e1, h]; rfl
  · rw [← e1, h]
    simp -dsimp -implicitDefEqProofs only [go_sem, C_P, C_deep, reduceCtorEq, Nat.reduceAdd, Nat.reduceLeDiff, Nat.reduceLT, Nat.reduceEqDiff, Nat.reduceMul, Nat.reduceSub, Nat.reducePow, Int.reduceToNat, Int.reduceLE, Int.reduceLT, Int.reduceEq, h, len_SV sl_71 hs, evs_len]
    refine Br_intro (fun h => ?_) (fun h => ?_)
    · simp -dsimp -implicitDefEqProofs only [go_sem, C_P, C_deep, reduceCtorEq, Nat.reduceAdd, Nat.reduceLeDiff, Nat.reduceLT, Nat.reduceEqDiff, Nat.reduceMul, Nat.reduceSub, Nat.reducePow, Int.reduceToNat, Int.reduceLE, Int.reduceLT, Int.reduceEq, len_SV sl_71 hs, h, evs_len]
      rw [← e2, h, e3]; rfl
    · simp -dsimp -implicitDefEqProofs only [go_sem, C_P, C_deep, reduceCtorEq, Nat.reduceAdd, Nat.reduceLeDiff, Nat.reduceLT, Nat.reduceEqDiff, Nat.reduceMul, Nat.reduceSub, Nat.reducePow, Int.reduceToNat, Int.reduceLE, Int.reduceLT, Int.reduceEq, len_SV sl_71 hs, h]
      rw [← e2, h]; rfl

/-- A stock's blocks in the frame: a tree, or the copy's slice. -/
def FS (D : Nat) (F : List AObj) (q : Nat) (sv : PV) (L : List Blk) : Prop :=
  SV sv (blks L) ∨ ∃ j, sv = .sl D j 0 0 L.length 4 L.isEmpty ∧ F[j]? = some ⟨(blks L).flatten, 0, 0⟩ ∧ 1 < j ∧ j ≠ q
theorem FS.bv {H : Heap} {F q sv L} (h : FS H.length F q sv L) (g : List AObj) : BV ((F ++ g) :: H) sv L := by
  rcases h with h | ⟨j, rfl, hj, _, _⟩
  · exact BV.of h
  · exact BV.sl (by rw [getO_cons_self, List.getElem?_append_left (List.getElem?_eq_some_iff.1 hj).1]; exact hj)
theorem FS.reify {H : Heap} {F q sv L} (h : FS H.length F q sv L) {G : List AObj} (hG : ∀ j o, 1 < j → F[j]? = some o → G[j]? = some o) : ∃ rv, (∀ k, reify (G :: H) H.length (k + 2) sv = some rv) ∧ SV rv (blks L) := by
  rcases h with h | ⟨j, rfl, hj, h1, _⟩
  · exact ⟨sv, fun k => reify_SV h (blks_scal L), h⟩
  · exact ⟨_, fun k => reify_sl (o := ⟨(blks L).flatten, 0, 0⟩) (es := blks L) (rest := []) (by omega) (by rw [getO_cons_self]; exact hG _ _ h1 hj) ⟨Nat.le_refl _, Nat.le_refl _⟩ (by decide) (blks_len L) (blks_four L) (by simp) (Nat.zero_le _) (blks_scal L), .inr ⟨_, rfl⟩⟩
def I40 (most : Int) (sv esv : PV) (l : List Blk) (xs : List Ev) (H : Heap) (i : Nat) (st : St) : Prop :=
  ∃ (F : List AObj) (q : Nat) (L : List Blk) (sv' : PV), SOK most L ∧ lens L = lens l ∧ FS H.length F q sv' L ∧ F[1]? = some ⟨[.int .i64 0, .nils], 0, 0⟩ ∧ F[q]? = some ⟨[.int .i64 most, sv'], 0, 0⟩ ∧ 1 < q ∧
    runE most L (xs.drop i) i = runE most l xs 0 ∧
    st = ⟨[.agg [.int .i64 most, sv], esv, .ref H.length 0 0 0 2, gv st 3, .ref H.length 1 0 0 2, .int .i64 0, .int .i64 0, gv st 7, gv st 8, .ref H.length q 0 0 2, gv st 10, gv st 11, gv st 12, gv st 13, gv st 14, gv st 15, gv st 16, gv st 17, gv st 18, gv st 19, gv st 20, gv st 21, gv st 22, gv st 23, gv st 24, gv st 25, gv st 26, gv st 27, gv st 28, gv st 29, gv st 30, esv, .int .i64 xs.length, .int .i64 i, gv st 34, gv st 35, gv st 36, gv st 37, gv st 38, gv st 39, gv st 40, gv st 41, gv st 42, gv st 43, gv st 44, gv st 45, gv st 46, gv st 47, gv st 48, gv st 49, gv st 50, gv st 51], F :: H, []⟩
def RunV (most : Int) (r : Int × Nat × List Blk) (v : PV) : Prop := ∃ rv, SV rv (blks r.2.2) ∧ v = .tup [.agg [.int .i64 (sM r.1 most), rv], .int .i64 r.2.1, .int .i64 r.1]
theorem RunV.bad {most : Int} {e : Int} {i : Nat} (h : e ≠ 0) : RunV most (e, i, []) (.tup [.agg [.int .i64 0, .nils], .int .i64 i, .int .i64 e]) := ⟨.nils, .inl ⟨rfl, rfl⟩, by unfold sM; rw [if_pos h]⟩
set_option maxHeartbeats 2000000 in
set_option maxRecDepth 100000 in
theorem run40 {H : Heap} {most sv l esv} {xs : List Ev} (hs : SV sv (blks l)) (hw : ∀ b ∈ l, b.who.size ≤ maxL) (hn : l.length ≤ 512) (he : SV esv (evs xs)) (hx : ∀ x ∈ xs, x.who.size ≤ maxL) (hxn : xs.length ≤ 8192) :
    WC C 40 [.agg [.int .i64 most, sv], esv] H fun v H' d => RunV most (runR most l xs) v ∧ H' = H ∧ d = [] := by
  refine WC_own (fn := Tryd.f40) Tryd.func40 rfl rfl rfl (Or.inl rfl) ?_; simp only [Tryd.f40, List.replicate, List.length_cons, List.length_nil, Nat.reduceSub, Nat.reduceAdd, List.cons_append, List.nil_append]
  simp -dsimp -implicitDefEqProofs only [go_sem, C_P, C_deep, reduceCtorEq, Nat.reduceAdd, Nat.reduceLeDiff, Nat.reduceLT, Nat.reduceEqDiff, Nat.reduceMul, Nat.reduceSub, Nat.reducePow, Int.reduceToNat, Int.reduceLE, Int.reduceLT, Int.reduceEq]
  refine of42 (BV.of hs) hw hn (fun h F hF => ?_) (fun h F q hF hc => ?_)
  · have h1 : F[1]? = some ⟨[.int .i64 0, .nils], 0, 0⟩ := hF.get rfl
    have hl1 : 1 < F.length := (List.getElem?_eq_some_iff.1 h1).1
    have hE : runR most l xs = (chkS most l, 0, []) := by unfold runR; rw [if_pos h]
    rw [hE]
    simp -dsimp -implicitDefEqProofs only [go_sem, C_P, C_deep, reduceCtorEq, Nat.reduceAdd, Nat.reduceLeDiff, Nat.reduceLT, Nat.reduceEqDiff, Nat.reduceMul, Nat.reduceSub, Nat.reducePow, Int.reduceToNat, Int.reduceLE, Int.reduceLT, Int.reduceEq, show (chkS most l != 0) = true by simpa using h, h1, List.getElem?_set, hl1]
    exact RunV.bad (i := 0) h
  · have h1 : F[1]? = some ⟨[.int .i64 0, .nils], 0, 0⟩ := hF.get rfl
    have hl1 : 1 < F.length := (List.getElem?_eq_some_iff.1 h1).1
    simp -dsimp -implicitDefEqProofs only [go_sem, C_P, C_deep, reduceCtorEq, Nat.reduceAdd, Nat.reduceLeDiff, Nat.reduceLT, Nat.reduceEqDiff, Nat.reduceMul, Nat.reduceSub, Nat.reducePow, Int.reduceToNat, Int.reduceLE, Int.reduceLT, Int.reduceEq, show ((0 : Int) != 0) = false from rfl, len_SV sl_69 he, evs_len]
    refine Br_intro (fun h2 => ?_) (fun h2 => ?_)
    · have h2' : xs.length > 4096 := by have := of_decide_eq_true h2; omega
      have hE : runR most l xs = (5, 0, []) := by unfold runR; rw [if_neg (by simp [h]), if_pos h2']
      rw [hE]
      simp -dsimp -implicitDefEqProofs only [go_sem, C_P, C_deep, reduceCtorEq, Nat.reduceAdd, Nat.reduceLeDiff, Nat.reduceLT, Nat.reduceEqDiff, Nat.reduceMul, Nat.reduceSub, Nat.reducePow, Int.reduceToNat, Int.reduceLE, Int.reduceLT, Int.reduceEq, h1, List.getElem?_set, hl1]
      exact RunV.bad (i := 0) (by decide)
    · have h2' : ¬ xs.length > 4096 := by have := of_decide_eq_false h2; omega
      have hE : runR most l xs = runE most l xs 0 := by unfold runR; rw [if_neg (by simp [h]), if_neg h2']
      rw [hE]
      obtain ⟨sv', hq, hkq, hbo⟩ := id hc
      have hcs : cellsOf sv' = [sv'] ∧ isTup sv' = false := by
        rcases hbo with ⟨rfl, rfl⟩ | ⟨j, rfl, _⟩ <;> exact ⟨rfl, rfl⟩
      simp -dsimp -implicitDefEqProofs only [go_sem, C_P, C_deep, reduceCtorEq, Nat.reduceAdd, Nat.reduceLeDiff, Nat.reduceLT, Nat.reduceEqDiff, Nat.reduceMul, Nat.reduceSub, Nat.reducePow, Int.reduceToNat, Int.reduceLE, Int.reduceLT, Int.reduceEq, hq, hcs.1, hcs.2, len_SV sl_69 he, evs_len]
      refine WL_for xs.length (I40 most sv esv l xs H) ⟨F ++ [⟨[.int .i64 most, sv'], 0, 0⟩], F.length, l, sv', chkS_zero.1 h, rfl, ?_, ?_, ?_, by omega, rfl, ?_⟩ ?_ ?_
      · rcases hbo with ⟨rfl, rfl⟩ | ⟨j, rfl, hkj, hjq, hj⟩
        · exact .inl (.inl ⟨rfl, rfl⟩)
        · have hjl := (List.getElem?_eq_some_iff.1 hj).1
          exact .inr ⟨j, rfl, by rw [List.getElem?_append_left hjl]; exact hj, hkj, by omega⟩
      · rw [List.getElem?_append_left hl1]; exact h1
      · rw [getElem?_app]; rfl
      · rfl
      · rintro i st hi ⟨F, q, L, sv', hL, hlen, hfs, h1, hq, hq1, hR, hst⟩
        rw [hst]
        generalize gv st = z
        have hd : decide ((i : Int) < xs.length) = true := by simp; omega
        obtain ⟨x, hx'⟩ : ∃ x, xs[i]? = some x := ⟨_, List.getElem?_eq_getElem hi⟩
        have hqa : ∀ g, (F ++ g)[q]? = some ⟨[.int .i64 most, sv'], 0, 0⟩ := fun g => by rw [List.getElem?_append_left (List.getElem?_eq_some_iff.1 hq).1]; exact hq
        have hcs : cellsOf sv' = [sv'] ∧ isTup sv' = false := ⟨(hfs.bv []).cells, (hfs.bv []).tup⟩
        have hLn := lens_len hlen
        have h61 : ∀ (g : List AObj) (K : PV → Heap → Wr → Prop) (t : Hold K), WCh C 61 [.agg [.int .i64 most, sv'], .agg [.int .i64 x.kind, .str x.who, .int .i64 x.len, .int .i64 x.wear]] ((F ++ g) :: H) K t = K (stkRes (doneE most L x) most (doneL most L x)) ((F ++ g) :: H) [] :=
          fun g K t => WCh_keep (done61h (hfs.bv g) hL.who_ (hx x (List.mem_of_getElem? hx')) (by omega))
        have h1a : ∀ g, (F ++ g)[1]? = some ⟨[.int .i64 0, .nils], 0, 0⟩ := fun g => by rw [List.getElem?_append_left (List.getElem?_eq_some_iff.1 h1).1]; exact h1
        have hl1 : 1 < F.length := (List.getElem?_eq_some_iff.1 h1).1
        have hlq : q < F.length := (List.getElem?_eq_some_iff.1 hq).1
        rw [drop_cons hx', runE] at hR
        simp -dsimp -implicitDefEqProofs only [go_sem, C_P, C_deep, reduceCtorEq, Nat.reduceAdd, Nat.reduceLeDiff, Nat.reduceLT, Nat.reduceEqDiff, Nat.reduceMul, Nat.reduceSub, Nat.reducePow, Int.reduceToNat, Int.reduceLE, Int.reduceLT, Int.reduceEq, hd, index_SV (k := .i64) sl_69 he (evs_get hx') rfl, hqa, hcs.1, hcs.2, h61, stkRes_eq, (mkS_SV (blks (sL (doneE most L x) (doneL most L x)))).cells, (mkS_SV (blks (sL (doneE most L x) (doneL most L x)))).tup]
        refine Br_intro (fun h3 => ?_) (fun h3 => ?_)
        · have h3' : doneE most L x ≠ 0 := by simpa using h3
          rw [if_pos h3'] at hR
          rw [← hR]
          simp -dsimp -implicitDefEqProofs only [go_sem, C_P, C_deep, reduceCtorEq, Nat.reduceAdd, Nat.reduceLeDiff, Nat.reduceLT, Nat.reduceEqDiff, Nat.reduceMul, Nat.reduceSub, Nat.reducePow, Int.reduceToNat, Int.reduceLE, Int.reduceLT, Int.reduceEq, h1a, List.getElem?_set, hl1, show 1 < F.length + 2 from by omega, show 1 < F.length + 1 + 1 from by omega]
          exact RunV.bad h3'
        · have h3' : doneE most L x = 0 := by simpa using h3
          rw [if_neg (by simp [h3'])] at hR
          obtain ⟨g1, g2⟩ := done_ok h3'
          have hsM : sM (doneE most L x) most = most := by unfold sM; rw [h3', if_neg (by decide)]
          have hsL : sL (doneE most L x) (doneL most L x) = doneL most L x := by unfold sL; rw [h3', if_neg (by decide)]
          simp -dsimp -implicitDefEqProofs only [go_sem, C_P, C_deep, reduceCtorEq, Nat.reduceAdd, Nat.reduceLeDiff, Nat.reduceLT, Nat.reduceEqDiff, Nat.reduceMul, Nat.reduceSub, Nat.reducePow, Int.reduceToNat, Int.reduceLE, Int.reduceLT, Int.reduceEq, hqa, hsM, hsL, (mkS_SV (blks (doneL most L x))).cells, (mkS_SV (blks (doneL most L x))).tup, wrap_succ (show i < 9223372036854775807 by omega)]
          refine ⟨_, q, doneL most L x, mkS (blks (doneL most L x)), g1, g2.trans hlen, .inl (mkS_SV _), ?_, ?_, hq1, hR, rfl⟩
          · rw [List.getElem?_set_ne (by omega)]; exact h1a _
          · rw [List.getElem?_set_self (by simp; omega)]
      · rintro st ⟨F, q, L, sv', hL, hlen, hfs, h1, hq, hq1, hR, hst⟩
        rw [hst]
        generalize gv st = z
        have hl1 : 1 < F.length := (List.getElem?_eq_some_iff.1 h1).1
        have hd : decide ((xs.length : Int) < xs.length) = false := by simp
        have hcs : cellsOf sv' = [sv'] ∧ isTup sv' = false := ⟨(hfs.bv []).cells, (hfs.bv []).tup⟩
        rw [List.drop_length, runE] at hR
        obtain ⟨rv, hrv, hsv⟩ := hfs.reify (G := F.set 1 ⟨[.int .i64 most, sv'], 0, 0⟩) fun j o hj ho => by rw [List.getElem?_set_ne (by omega)]; exact ho
        simp -dsimp -implicitDefEqProofs only [go_sem, C_P, C_deep, reduceCtorEq, Nat.reduceAdd, Nat.reduceLeDiff, Nat.reduceLT, Nat.reduceEqDiff, Nat.reduceMul, Nat.reduceSub, Nat.reducePow, Int.reduceToNat, Int.reduceLE, Int.reduceLT, Int.reduceEq, hd, hq, h1, hcs.1, hcs.2, List.getElem?_set, hl1, hrv]
        rw [← hR]
        exact ⟨rv, hsv, rfl⟩

def I41 (most : Int) (sv esv : PV) (l : List Blk) (xs : List Ev) (H : Heap) (i : Nat) (st : St) : Prop :=
  ∃ (g : List AObj) (L : List Blk) (sv' : PV), SOK most L ∧ lens L = lens l ∧ SV sv' (blks L) ∧ runE most L (xs.drop i) i = runE most l xs 0 ∧
    st = ⟨[.agg [.int .i64 most, sv], esv, .ref H.length 0 0 0 2, gv st 3, .ref H.length 1 0 0 2, .int .i64 0, .int .i64 0, .int .i64 0, .int .i64 i, gv st 9, gv st 10, gv st 11, gv st 12, gv st 13, gv st 14, gv st 15, gv st 16, gv st 17, gv st 18, gv st 19, gv st 20, gv st 21, gv st 22, gv st 23, gv st 24, gv st 25, gv st 26, gv st 27, gv st 28, gv st 29, gv st 30, gv st 31, gv st 32, gv st 33, gv st 34, gv st 35, gv st 36, gv st 37, gv st 38, gv st 39, gv st 40, gv st 41, gv st 42, gv st 43, gv st 44, gv st 45, gv st 46, gv st 47, gv st 48],
      (⟨[.int .i64 most, sv'], 0, 0⟩ :: ⟨[.int .i64 0, .nils], 0, 0⟩ :: g) :: H, []⟩
set_option maxHeartbeats 2000000 in
set_option maxRecDepth 100000 in
theorem run41 {H : Heap} {most sv l esv} {xs : List Ev} (hs : SV sv (blks l)) (hw : ∀ b ∈ l, b.who.size ≤ maxL) (hn : l.length ≤ 8 ∨ chkS most l ≠ 0) (he : SV esv (evs xs)) (hx : ∀ x ∈ xs, x.who.size ≤ maxL) (hxn : xs.length ≤ 8192) :
    WC C 41 [.agg [.int .i64 most, sv], esv] H fun v H' d => RunV most (runR most l xs) v ∧ H' = H ∧ d = [] := by
  refine WC_own (fn := Tryd.f41) Tryd.func41 rfl rfl rfl (Or.inl rfl) ?_; simp only [Tryd.f41, List.replicate, List.length_cons, List.length_nil, Nat.reduceSub, Nat.reduceAdd, List.cons_append, List.nil_append]
  have hdr := dr_41; simp only [drwF, Tryd.f41, drw, cond_true, cond_false, List.append_nil, List.nil_append, List.cons_append, List.map_cons, List.map_nil, List.cons.injEq, and_true] at hdr
  simp -dsimp -implicitDefEqProofs only [go_sem, C_P, C_deep, reduceCtorEq, Nat.reduceAdd, Nat.reduceLeDiff, Nat.reduceLT, Nat.reduceEqDiff, Nat.reduceMul, Nat.reduceSub, Nat.reducePow, Int.reduceToNat, Int.reduceLE, Int.reduceLT, Int.reduceEq, WCh_pure (chk20 hs hw)]
  refine Br_intro (fun h => ?_) (fun h => ?_)
  · have h' : chkS most l ≠ 0 := by simpa using h
    have hE : runR most l xs = (chkS most l, 0, []) := by unfold runR; rw [if_pos h']
    rw [hE]
    simp -dsimp -implicitDefEqProofs only [go_sem, C_P, C_deep, reduceCtorEq, Nat.reduceAdd, Nat.reduceLeDiff, Nat.reduceLT, Nat.reduceEqDiff, Nat.reduceMul, Nat.reduceSub, Nat.reducePow, Int.reduceToNat, Int.reduceLE, Int.reduceLT, Int.reduceEq]
    exact RunV.bad (i := 0) h'
  · have h' : chkS most l = 0 := by simpa using h
    have hl8 : l.length ≤ 8 := hn.resolve_right (by simp [h'])
    simp -dsimp -implicitDefEqProofs only [go_sem, C_P, C_deep, reduceCtorEq, Nat.reduceAdd, Nat.reduceLeDiff, Nat.reduceLT, Nat.reduceEqDiff, Nat.reduceMul, Nat.reduceSub, Nat.reducePow, Int.reduceToNat, Int.reduceLE, Int.reduceLT, Int.reduceEq, h', len_SV sl_71 he, evs_len]
    refine Br_intro (fun h2 => ?_) (fun h2 => ?_)
    · have h2' : xs.length > 4096 := by have := of_decide_eq_true h2; omega
      have hE : runR most l xs = (5, 0, []) := by unfold runR; rw [if_neg (by simp [h']), if_pos h2']
      rw [hE]
      simp -dsimp -implicitDefEqProofs only [go_sem, C_P, C_deep, reduceCtorEq, Nat.reduceAdd, Nat.reduceLeDiff, Nat.reduceLT, Nat.reduceEqDiff, Nat.reduceMul, Nat.reduceSub, Nat.reducePow, Int.reduceToNat, Int.reduceLE, Int.reduceLT, Int.reduceEq]
      exact RunV.bad (i := 0) (by decide)
    · have h2' : ¬ xs.length > 4096 := by have := of_decide_eq_false h2; omega
      have hE : runR most l xs = runE most l xs 0 := by unfold runR; rw [if_neg (by simp [h']), if_neg h2']
      rw [hE]
      simp -dsimp -implicitDefEqProofs only [go_sem, C_P, C_deep, reduceCtorEq, Nat.reduceAdd, Nat.reduceLeDiff, Nat.reduceLT, Nat.reduceEqDiff, Nat.reduceMul, Nat.reduceSub, Nat.reducePow, Int.reduceToNat, Int.reduceLE, Int.reduceLT, Int.reduceEq]
      refine WL_for xs.length (I41 most sv esv l xs H) ⟨[], l, sv, chkS_zero.1 h', rfl, hs, rfl, rfl⟩ ?_ ?_
      · rintro i st hi ⟨g, L, sv', hL, hlen, hs', hR, hst⟩
        rw [hst]
        generalize gv st = z
        have hd : decide ((i : Int) < xs.length) = true := by simp; omega
        obtain ⟨x, hx'⟩ : ∃ x, xs[i]? = some x := ⟨_, List.getElem?_eq_getElem hi⟩
        have hLn := lens_len hlen
        have h62 := done62 (most := most) (x := x) hs' hL.who_ (hx x (List.mem_of_getElem? hx')) (.inl (by omega)) (by omega)
        rw [drop_cons hx', runE] at hR
        simp -dsimp -implicitDefEqProofs only [go_sem, C_P, C_deep, reduceCtorEq, Nat.reduceAdd, Nat.reduceLeDiff, Nat.reduceLT, Nat.reduceEqDiff, Nat.reduceMul, Nat.reduceSub, Nat.reducePow, Int.reduceToNat, Int.reduceLE, Int.reduceLT, Int.reduceEq, hd, len_SV sl_71 he, evs_len, ↓W_drawnL hdr.1, ↓W_drawnL hdr.2, index_SV (k := .i64) sl_71 he (evs_get hx') rfl, hs'.cells, hs'.tup, WCh_pure h62, stkRes_eq, (mkS_SV (blks (sL (doneE most L x) (doneL most L x)))).cells, (mkS_SV (blks (sL (doneE most L x) (doneL most L x)))).tup]
        refine Br_intro (fun h3 => ?_) (fun h3 => ?_)
        · have h3' : doneE most L x ≠ 0 := by simpa using h3
          rw [if_pos h3'] at hR
          rw [← hR]
          simp -dsimp -implicitDefEqProofs only [go_sem, C_P, C_deep, reduceCtorEq, Nat.reduceAdd, Nat.reduceLeDiff, Nat.reduceLT, Nat.reduceEqDiff, Nat.reduceMul, Nat.reduceSub, Nat.reducePow, Int.reduceToNat, Int.reduceLE, Int.reduceLT, Int.reduceEq]
          exact RunV.bad h3'
        · have h3' : doneE most L x = 0 := by simpa using h3
          rw [if_neg (by simp [h3'])] at hR
          obtain ⟨g1, g2⟩ := done_ok h3'
          have hsM : sM (doneE most L x) most = most := by unfold sM; rw [h3', if_neg (by decide)]
          have hsL : sL (doneE most L x) (doneL most L x) = doneL most L x := by unfold sL; rw [h3', if_neg (by decide)]
          simp -dsimp -implicitDefEqProofs only [go_sem, C_P, C_deep, reduceCtorEq, Nat.reduceAdd, Nat.reduceLeDiff, Nat.reduceLT, Nat.reduceEqDiff, Nat.reduceMul, Nat.reduceSub, Nat.reducePow, Int.reduceToNat, Int.reduceLE, Int.reduceLT, Int.reduceEq, hsM, hsL, (mkS_SV (blks (doneL most L x))).cells, (mkS_SV (blks (doneL most L x))).tup, wrap_succ (show i < 9223372036854775807 by omega)]
          exact ⟨_, doneL most L x, mkS (blks (doneL most L x)), g1, g2.trans hlen, mkS_SV _, hR, rfl⟩
      · rintro st ⟨g, L, sv', hL, hlen, hs', hR, hst⟩
        rw [hst]
        generalize gv st = z
        have hd : decide ((xs.length : Int) < xs.length) = false := by simp
        rw [List.drop_length, runE] at hR
        have hap : appendP PP ((⟨[.int .i64 most, sv'], 0, 0⟩ :: ⟨[.int .i64 0, .nils], 0, 0⟩ :: (g ++ [⟨[], 0, 0⟩])) :: H) 26 26 (.sl H.length (g.length + 1 + 1) 0 0 0 4 true) sv' = _ :=
          append_lim sl_26 (src_SV hs' (blks_four L)) (by rw [getO_cons_self, List.getElem?_cons_succ, List.getElem?_cons_succ, getElem?_app]; rfl) (room_ok (m := 512) (by decide) (by rw [blks_len, lens_len hlen]; omega) (by decide))
        by_cases hL0 : L = []
        · subst hL0
          have hr : ∀ G : List AObj, G[g.length + 1 + 1]? = some ⟨[], 0, 0⟩ → reify (G :: H) H.length 4 (.sl H.length (g.length + 1 + 1) 0 0 0 4 true) = some (.tree [] true) :=
            fun G hG => reify_sl (o := ⟨[], 0, 0⟩) (es := []) (rest := []) (by omega) (by rw [getO_cons_self]; exact hG) ⟨Nat.le_refl _, Nat.le_refl _⟩ (by decide) rfl (by simp) rfl (Nat.zero_le _) rfl
          simp -dsimp -implicitDefEqProofs only [go_sem, C_P, C_deep, reduceCtorEq, Nat.reduceAdd, Nat.reduceLeDiff, Nat.reduceLT, Nat.reduceEqDiff, Nat.reduceMul, Nat.reduceSub, Nat.reducePow, Int.reduceToNat, Int.reduceLE, Int.reduceLT, Int.reduceEq, hd, len_SV sl_71 he, evs_len, ↓W_drawnL hdr.1, ↓W_drawnL hdr.2, hs'.cells, hs'.tup, blks_len, hap, show ([] : List Blk).length = 0 from rfl, hr]
          rw [← hR]
          exact ⟨.tree [] true, .inr ⟨true, rfl⟩, rfl⟩
        · have hl0 : ¬ L.length = 0 := by simpa using hL0
          have hr : ∀ (G : List AObj) (j : Nat), G[j]? = some ⟨(blks L).flatten, 0, 0⟩ → reify (G :: H) H.length 4 (.sl H.length j 0 0 L.length 4 false) = some (mkS (blks L)) :=
            fun G j hG => reify_blk hG rfl hL0
          simp -dsimp -implicitDefEqProofs only [go_sem, C_P, C_deep, reduceCtorEq, Nat.reduceAdd, Nat.reduceLeDiff, Nat.reduceLT, Nat.reduceEqDiff, Nat.reduceMul, Nat.reduceSub, Nat.reducePow, Int.reduceToNat, Int.reduceLE, Int.reduceLT, Int.reduceEq, hd, len_SV sl_71 he, evs_len, ↓W_drawnL hdr.1, ↓W_drawnL hdr.2, hs'.cells, hs'.tup, blks_len, hap, hl0, hr]
          rw [← hR]
          exact ⟨mkS (blks L), mkS_SV _, rfl⟩
end Go.Proofs.YtbcmiddffckgmaaDoor.Am
