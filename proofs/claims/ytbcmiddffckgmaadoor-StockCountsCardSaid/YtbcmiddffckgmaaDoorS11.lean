/- Where a condition holds in a copy. -/
import Derived.Test.YtbcmiddffckgmaaDoorS10
set_option linter.unusedVariables false
set_option linter.unusedSimpArgs false
set_option linter.unnecessarySimpa false
namespace Go.Proofs.YtbcmiddffckgmaaDoor.Am
open Go
def I64 (l : List Blk) (P : Blk → Bool) (d p c : Nat) (cap : List PV) (sv : PV) (H : Heap) (i : Nat) (st : St) : Prop :=
  ∃ (g : List AObj) (av : PV), Acc 1 H.length 0 g av (nats (whr P l i)) ∧
    st = ⟨[.ref d p 0 0 2, .fn c cap, gv st 2, gv st 3, .nils, av, gv st 6, gv st 7, gv st 8, gv st 9, gv st 10, gv st 11, sv, .int .i64 l.length, .int .i64 i, gv st 15, gv st 16, gv st 17, gv st 18, gv st 19, gv st 20, gv st 21, gv st 22, gv st 23, gv st 24, gv st 25, gv st 26, gv st 27], g :: H, []⟩
set_option maxRecDepth 100000 in
theorem where64 {H : Heap} {d p : Nat} {most : Int} {l : List Blk} {c : Nat} {cap : List PV} {P : Blk → Bool} (hc : Cop H d p most l) (hn : l.length ≤ 512)
    (hcl : ∀ (fr : List AObj) (b : Blk) (K : PV → Heap → Wr → Prop) (t : Hold K), WCh C c (.agg b.c :: cap) (fr :: H) K t = K (.bool (P b)) (fr :: H) []) {K t} :
    WCh C 64 [.ref d p 0 0 2, .fn c cap] H K t = K (mkS (nats (whr P l l.length))) H [] := by
  suffices h : WC C 64 [.ref d p 0 0 2, .fn c cap] H fun v H' dd => v = mkS (nats (whr P l l.length)) ∧ H' = H ∧ dd = [] by
    obtain ⟨k, v, H', d, h, rfl, rfl, rfl⟩ := h; exact WCh_det h
  obtain ⟨sv, hp, hb⟩ := hc
  have hpu := getO_up hp
  refine WC_own (fn := Tryd.f64) Tryd.func64 rfl rfl rfl (Or.inl rfl) ?_; simp only [Tryd.f64, List.replicate, List.length_cons, List.length_nil, Nat.reduceSub, Nat.reduceAdd, List.cons_append, List.nil_append]
  have hlen : lenP PP 22 sv = some (.int .i64 l.length) := by
    rcases hb with ⟨rfl, rfl⟩ | ⟨j, lim, rfl, hj⟩
    · exact ln_22
    · exact ls_22
  simp -dsimp -implicitDefEqProofs only [go_sem, C_P, C_deep, reduceCtorEq, Nat.reduceAdd, Nat.reduceLeDiff, Nat.reduceLT, Nat.reduceEqDiff, Nat.reduceMul, Nat.reduceSub, Nat.reducePow, Int.reduceToNat, Int.reduceLE, Int.reduceLT, Int.reduceEq, hpu, hlen]
  refine WL_for l.length (I64 l P d p c cap sv H) ⟨[], .nils, Acc_nil, rfl⟩ ?_ ?_
  · rintro i st hi ⟨g, av, hA, hst⟩
    rw [hst]
    generalize gv st = x
    rcases hb with ⟨rfl, rfl⟩ | ⟨j, lim, rfl, hj⟩
    · simp at hi
    have hd : decide ((i : Int) < l.length) = true := by simp; omega
    obtain ⟨b, hbi⟩ : ∃ b, l[i]? = some b := ⟨_, List.getElem?_eq_getElem hi⟩
    have hw := whr_succ (p := P) hbi
    have hju := getO_up hj
    have hF1 : ((blks l).flatten.drop (i * 4)).take 4 = [.int .i64 b.len, .int .i64 b.wear, .int .i64 b.uses, .str b.who] := fl_drop (blks_four l) (blks_get hbi)
    have hF2 : i * 4 + 4 ≤ (blks l).flatten.length := fl_le (blks_four l) (by rw [blks_len]; exact hi)
    generalize (blks l).flatten = F at hju hF1 hF2
    have hcl' : ∀ (fr : List AObj) (K : PV → Heap → Wr → Prop) (t : Hold K), WCh C c (.agg [.int .i64 b.len, .int .i64 b.wear, .int .i64 b.uses, .str b.who] :: cap) (fr :: H) K t = K (.bool (P b)) (fr :: H) [] := fun fr K t => hcl fr b K t
    simp -dsimp -implicitDefEqProofs only [go_sem, C_P, C_deep, reduceCtorEq, Nat.reduceAdd, Nat.reduceLeDiff, Nat.reduceLT, Nat.reduceEqDiff, Nat.reduceMul, Nat.reduceSub, Nat.reducePow, Int.reduceToNat, Int.reduceLE, Int.reduceLT, Int.reduceEq, hd, hju, hF1, hF2, show (0 : Int) ≤ (i : Int) from by omega, hi, hcl']
    refine Br_intro (fun h1 => ?_) (fun h1 => ?_)
    · simp -dsimp -implicitDefEqProofs only [go_sem, C_P, C_deep, reduceCtorEq, Nat.reduceAdd, Nat.reduceLeDiff, Nat.reduceLT, Nat.reduceEqDiff, Nat.reduceMul, Nat.reduceSub, Nat.reducePow, Int.reduceToNat, Int.reduceLE, Int.reduceLT, Int.reduceEq]
      rw [if_pos h1] at hw
      refine WXh_acc sl_31 hA rfl [] [_, _] rfl 1 (by omega) rfl rfl (by decide) (room_ok (m := 512) (by decide) (by rw [nats_len]; have := whr_len P l i; omega) (by decide)) ?_
      rw [nats_snoc, ← hw]
      intro av' g' wr hA' hwr
      simp -dsimp -implicitDefEqProofs only [go_sem, C_P, C_deep, reduceCtorEq, Nat.reduceAdd, Nat.reduceLeDiff, Nat.reduceLT, Nat.reduceEqDiff, Nat.reduceMul, Nat.reduceSub, Nat.reducePow, Int.reduceToNat, Int.reduceLE, Int.reduceLT, Int.reduceEq, addWs_own hwr, wrap_succ (show i < 9223372036854775807 by omega), hA'.cells, hA'.tup]
      exact ⟨g', av', hA', rfl⟩
    · rw [if_neg (by simp [h1]), List.append_nil] at hw
      simp -dsimp -implicitDefEqProofs only [go_sem, C_P, C_deep, reduceCtorEq, Nat.reduceAdd, Nat.reduceLeDiff, Nat.reduceLT, Nat.reduceEqDiff, Nat.reduceMul, Nat.reduceSub, Nat.reducePow, Int.reduceToNat, Int.reduceLE, Int.reduceLT, Int.reduceEq, wrap_succ (show i < 9223372036854775807 by omega)]
      exact ⟨_, av, by rw [hw]; exact hA.app _, rfl⟩
  · rintro st ⟨g, av, hA, hst⟩
    rw [hst]
    generalize gv st = x
    have hr : reify (g :: H) H.length 6 av = some (mkS (nats (whr P l l.length))) := reify_Acc hA rfl (p := []) rfl (n := 4) (by decide) (nats_scal _)
    simp -dsimp -implicitDefEqProofs only [go_sem, C_P, C_deep, reduceCtorEq, Nat.reduceAdd, Nat.reduceLeDiff, Nat.reduceLT, Nat.reduceEqDiff, Nat.reduceMul, Nat.reduceSub, Nat.reducePow, Int.reduceToNat, Int.reduceLE, Int.reduceLT, Int.reduceEq, hr]
set_option maxRecDepth 100000 in
theorem free65 {G : Heap} {d p q D : Nat} {most : Int} {sv : PV} (hq : getO G D q = some ⟨[.ref d p 0 0 2], 0, 0⟩) (hp : getO G d p = some ⟨[.int .i64 most, sv], 0, 0⟩) (b : Blk) {K t} :
    WCh C 65 [.agg b.c, .ref D q 0 0 1] G K t = K (.bool (freeP most b)) G [] := by
  suffices h : WC C 65 [.agg b.c, .ref D q 0 0 1] G fun v H' dd => v = .bool (freeP most b) ∧ H' = G ∧ dd = [] by
    obtain ⟨k, v, H', d, h, rfl, rfl, rfl⟩ := h; exact WCh_det h
  have hqu := getO_up hq
  have hpu := getO_up hp
  refine WC_own (fn := Tryd.f65) Tryd.func65 rfl rfl rfl (Or.inl rfl) ?_; simp only [Tryd.f65, List.replicate, List.length_cons, List.length_nil, Nat.reduceSub, Nat.reduceAdd, List.cons_append, List.nil_append]
  have hdr := dr_65; simp only [drwF, Tryd.f65, drw, cond_true, cond_false, List.append_nil, List.nil_append, List.cons_append, List.map_cons, List.map_nil, List.cons.injEq, and_true] at hdr
  unfold freeP Blk.c
  simp -dsimp -implicitDefEqProofs only [go_sem, C_P, C_deep, reduceCtorEq, Nat.reduceAdd, Nat.reduceLeDiff, Nat.reduceLT, Nat.reduceEqDiff, Nat.reduceMul, Nat.reduceSub, Nat.reducePow, Int.reduceToNat, Int.reduceLE, Int.reduceLT, Int.reduceEq, ↓W_drawnL hdr, str_empty]
  refine Br_intro (fun h1 => ?_) (fun h1 => ?_)
  · simp -dsimp -implicitDefEqProofs only [go_sem, C_P, C_deep, reduceCtorEq, Nat.reduceAdd, Nat.reduceLeDiff, Nat.reduceLT, Nat.reduceEqDiff, Nat.reduceMul, Nat.reduceSub, Nat.reducePow, Int.reduceToNat, Int.reduceLE, Int.reduceLT, Int.reduceEq, h1, hqu, hpu]
  · simp -dsimp -implicitDefEqProofs only [go_sem, C_P, C_deep, reduceCtorEq, Nat.reduceAdd, Nat.reduceLeDiff, Nat.reduceLT, Nat.reduceEqDiff, Nat.reduceMul, Nat.reduceSub, Nat.reducePow, Int.reduceToNat, Int.reduceLE, Int.reduceLT, Int.reduceEq, h1]
set_option maxRecDepth 100000 in
theorem held66 {G : Heap} {q D : Nat} {who : ByteArray} (hq : getO G D q = some ⟨[.str who], 0, 0⟩) (b : Blk) {K t} :
    WCh C 66 [.agg b.c, .ref D q 0 0 1] G K t = K (.bool (heldP who b)) G [] := by
  suffices h : WC C 66 [.agg b.c, .ref D q 0 0 1] G fun v H' dd => v = .bool (heldP who b) ∧ H' = G ∧ dd = [] by
    obtain ⟨k, v, H', d, h, rfl, rfl, rfl⟩ := h; exact WCh_det h
  have hqu := getO_up hq
  refine WC_own (fn := Tryd.f66) Tryd.func66 rfl rfl rfl (Or.inl rfl) ?_; simp only [Tryd.f66, List.replicate, List.length_cons, List.length_nil, Nat.reduceSub, Nat.reduceAdd, List.cons_append, List.nil_append]
  unfold heldP Blk.c
  simp -dsimp -implicitDefEqProofs only [go_sem, C_P, C_deep, reduceCtorEq, Nat.reduceAdd, Nat.reduceLeDiff, Nat.reduceLT, Nat.reduceEqDiff, Nat.reduceMul, Nat.reduceSub, Nat.reducePow, Int.reduceToNat, Int.reduceLE, Int.reduceLT, Int.reduceEq, str_eq, hqu]
set_option maxRecDepth 100000 in
theorem free43 {H : Heap} {d p : Nat} {most : Int} {l : List Blk} (hc : Cop H d p most l) (hn : l.length ≤ 512) {K t} :
    WCh C 43 [.ref d p 0 0 2] H K t = K (mkS (nats (whr (freeP most) l l.length))) H [] := by
  suffices h : WC C 43 [.ref d p 0 0 2] H fun v H' dd => v = mkS (nats (whr (freeP most) l l.length)) ∧ H' = H ∧ dd = [] by
    obtain ⟨k, v, H', d, h, rfl, rfl, rfl⟩ := h; exact WCh_det h
  have hcu := hc.up [⟨[.ref d p 0 0 2], 0, 0⟩]
  obtain ⟨sv, hp, hb⟩ := id hcu
  have h64 := fun (K : PV → Heap → Wr → Prop) (t : Hold K) => where64 (c := 65) (cap := [.ref H.length 0 0 0 1]) (P := freeP most) hcu hn (fun fr b K t => free65 (getO_up (by rw [getO_cons_self]; rfl) fr) (getO_up hp fr) b) (K := K) (t := t)
  refine WC_own (fn := Tryd.f43) Tryd.func43 rfl rfl rfl (Or.inl rfl) ?_; simp only [Tryd.f43, List.replicate, List.length_cons, List.length_nil, Nat.reduceSub, Nat.reduceAdd, List.cons_append, List.nil_append]
  simp -dsimp -implicitDefEqProofs only [go_sem, C_P, C_deep, reduceCtorEq, Nat.reduceAdd, Nat.reduceLeDiff, Nat.reduceLT, Nat.reduceEqDiff, Nat.reduceMul, Nat.reduceSub, Nat.reducePow, Int.reduceToNat, Int.reduceLE, Int.reduceLT, Int.reduceEq, h64, mkS_reify (k := 4) (nats_scal _)]
set_option maxRecDepth 100000 in
theorem held46 {H : Heap} {d p : Nat} {most : Int} {l : List Blk} {who : ByteArray} (hc : Cop H d p most l) (hn : l.length ≤ 512) {K t} :
    WCh C 46 [.ref d p 0 0 2, .str who] H K t = K (mkS (nats (whr (heldP who) l l.length))) H [] := by
  suffices h : WC C 46 [.ref d p 0 0 2, .str who] H fun v H' dd => v = mkS (nats (whr (heldP who) l l.length)) ∧ H' = H ∧ dd = [] by
    obtain ⟨k, v, H', d, h, rfl, rfl, rfl⟩ := h; exact WCh_det h
  have hcu := hc.up [⟨[.str who], 0, 0⟩]
  have h64 := fun (K : PV → Heap → Wr → Prop) (t : Hold K) => where64 (c := 66) (cap := [.ref H.length 0 0 0 1]) (P := heldP who) hcu hn (fun fr b K t => held66 (getO_up (by rw [getO_cons_self]; rfl) fr) b) (K := K) (t := t)
  refine WC_own (fn := Tryd.f46) Tryd.func46 rfl rfl rfl (Or.inl rfl) ?_; simp only [Tryd.f46, List.replicate, List.length_cons, List.length_nil, Nat.reduceSub, Nat.reduceAdd, List.cons_append, List.nil_append]
  simp -dsimp -implicitDefEqProofs only [go_sem, C_P, C_deep, reduceCtorEq, Nat.reduceAdd, Nat.reduceLeDiff, Nat.reduceLT, Nat.reduceEqDiff, Nat.reduceMul, Nat.reduceSub, Nat.reducePow, Int.reduceToNat, Int.reduceLE, Int.reduceLT, Int.reduceEq, h64, mkS_reify (k := 4) (nats_scal _)]
set_option maxRecDepth 100000 in
theorem free15 {most sv l} (hs : SV sv (blks l)) (hw : ∀ b ∈ l, b.who.size ≤ maxL) (hn : l.length ≤ 512) : Pure C 15 [.agg [.int .i64 most, sv]] (freeRes most l) := by
  intro H
  refine WC_own (fn := Tryd.f15) Tryd.func15 rfl rfl rfl (Or.inl rfl) ?_; simp only [Tryd.f15, List.replicate, List.length_cons, List.length_nil, Nat.reduceSub, Nat.reduceAdd, List.cons_append, List.nil_append]
  simp -dsimp -implicitDefEqProofs only [go_sem, C_P, C_deep, reduceCtorEq, Nat.reduceAdd, Nat.reduceLeDiff, Nat.reduceLT, Nat.reduceEqDiff, Nat.reduceMul, Nat.reduceSub, Nat.reducePow, Int.reduceToNat, Int.reduceLE, Int.reduceLT, Int.reduceEq]
  unfold freeRes
  refine of42 (BV.of hs) hw hn (fun h F _ => ?_) (fun h F q _ hc => ?_)
  · simp -dsimp -implicitDefEqProofs only [go_sem, C_P, C_deep, reduceCtorEq, Nat.reduceAdd, Nat.reduceLeDiff, Nat.reduceLT, Nat.reduceEqDiff, Nat.reduceMul, Nat.reduceSub, Nat.reducePow, Int.reduceToNat, Int.reduceLE, Int.reduceLT, Int.reduceEq, show (chkS most l != 0) = true by simpa using h]
    rw [if_pos h]
  · rw [if_neg (by simp [h])]
    simp -dsimp -implicitDefEqProofs only [go_sem, C_P, C_deep, reduceCtorEq, Nat.reduceAdd, Nat.reduceLeDiff, Nat.reduceLT, Nat.reduceEqDiff, Nat.reduceMul, Nat.reduceSub, Nat.reducePow, Int.reduceToNat, Int.reduceLE, Int.reduceLT, Int.reduceEq, free43 hc.cop hn, mkS_reify (k := 3) (nats_scal _)]
end Go.Proofs.YtbcmiddffckgmaaDoor.Am
