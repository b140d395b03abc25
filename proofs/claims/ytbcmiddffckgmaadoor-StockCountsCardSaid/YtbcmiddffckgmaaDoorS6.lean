/- The check of a stock, the program's and the reference's. -/
import Derived.Test.YtbcmiddffckgmaaDoorS5
set_option linter.unusedVariables false
set_option linter.unusedSimpArgs false
set_option linter.unnecessarySimpa false
namespace Go.Proofs.YtbcmiddffckgmaaDoor.Am
open Go
/-- A call that leaves the heap as it is. -/
theorem WCh_keep {C : Cfg} {f args H v} (h : WC C f args H fun v' H' d => v' = v ∧ H' = H ∧ d = []) {K t} : WCh C f args H K t = K v H [] := by
  obtain ⟨k, v', H', d, e, rfl, rfl, rfl⟩ := h
  exact WCh_det e
theorem eq22_nils : binOpP PP .eql 22 .nils .nils = some (.bool true) := by kernel_rfl
theorem eq22_tree {es lim} : binOpP PP .eql 22 (.tree es lim) .nils = some (.bool false) := by kernel_rfl
theorem eq22_sl {d i u off len sz lim} : binOpP PP .eql 22 (.sl d i u off len sz lim) .nils = some (.bool false) := by kernel_rfl
/-- The slice reads as these blocks, in the heap and with whatever frames above. -/
structure BV (H : Heap) (sv : PV) (l : List Blk) : Prop where
  cells : cellsOf sv = [sv]
  tup : isTup sv = false
  len : lenP PP 22 sv = some (.int .i64 l.length)
  eq : binOpP PP .eql 22 sv .nils = some (.bool false) ∨ (sv = .nils ∧ l = [])
  src : ∀ fs : Heap, srcCells (fs ++ H) 4 sv = some (l.length, (blks l).flatten)
  idx : ∀ (i : Nat) b, l[i]? = some b → ∃ a a0, (∀ k, indexAddrP PP 22 sv (.int k (i : Int)) = some a) ∧ (∀ fs : Heap, loadP PP (fs ++ H) 66 a = some (.agg [.int .i64 b.len, .int .i64 b.wear, .int .i64 b.uses, .str b.who])) ∧
    fieldAddrP PP 66 a 0 = some a0 ∧ ∀ fs : Heap, loadP PP (fs ++ H) 3 a0 = some (.int .i64 b.len)
theorem BV.up {H sv l} (h : BV H sv l) (f : List AObj) : BV (f :: H) sv l where
  cells := h.cells
  tup := h.tup
  len := h.len
  eq := h.eq
  src := fun fs => by have := h.src (fs ++ [f]); rwa [List.append_assoc] at this
  idx := fun i b hb => by
    obtain ⟨a, a0, h1, h2, h3, h4⟩ := h.idx i b hb
    exact ⟨a, a0, h1, fun fs => by have := h2 (fs ++ [f]); rwa [List.append_assoc] at this, h3, fun fs => by have := h4 (fs ++ [f]); rwa [List.append_assoc] at this⟩
theorem BV.get {H sv l} (h : BV H sv l) {i : Nat} {b : Blk} (hb : l[i]? = some b) : ∃ a a0, (∀ k, indexAddrP PP 22 sv (.int k (i : Int)) = some a) ∧ (∀ f : List AObj, loadP PP (f :: H) 66 a = some (.agg [.int .i64 b.len, .int .i64 b.wear, .int .i64 b.uses, .str b.who])) ∧
    fieldAddrP PP 66 a 0 = some a0 ∧ ∀ f : List AObj, loadP PP (f :: H) 3 a0 = some (.int .i64 b.len) := by
  obtain ⟨a, a0, h1, h2, h3, h4⟩ := h.idx i b hb
  exact ⟨a, a0, h1, fun f => h2 [f], h3, fun f => h4 [f]⟩
theorem BV.of {H sv l} (hs : SV sv (blks l)) : BV H sv l where
  cells := hs.cells
  tup := hs.tup
  len := by rw [len_SV sl_22 hs, blks_len]
  eq := by
    rcases hs with ⟨rfl, hl⟩ | ⟨lim, rfl⟩
    · exact .inr ⟨rfl, by cases l with | nil => rfl | cons a l => simp [blks] at hl⟩
    · exact .inl eq22_tree
  src := fun fs => by rw [src_SV hs (blks_four l), blks_len]
  idx := fun i b hb => ⟨.tptr b.c, .tptr b.c, fun k => index_SV sl_22 hs (blks_get hb) rfl, fun fs => by rw [ldb_66]; rfl, by rw [fb_66_0]; rfl, fun fs => by rw [ldt_3]; rfl⟩
def prevL (l : List Blk) (i : Nat) : Option Int := if 0 < i then (l[i - 1]?).map Blk.len else none
def geP (p : Option Int) (n : Int) : Bool := match p with
  | some q => decide (q ≥ n)
  | none => false
def blkErr (most : Int) (p : Option Int) (b : Blk) : Int :=
  if inR_ b.len 1 100000 = false then 2
  else if inR_ b.wear 0 100000 = false then 2
  else if inR_ b.uses 0 1048576 = false then 2
  else if geP p b.len = true then 9
  else if letF b.who ≠ 0 then letF b.who
  else if b.wear > most ∧ b.who.size ≠ 0 then 14 else 0
def chkB (most : Int) (l : List Blk) : Nat → Nat → Int
  | 0, _ => 0
  | k + 1, i => match l[i]? with
    | some b => if blkErr most (prevL l i) b ≠ 0 then blkErr most (prevL l i) b else chkB most l k (i + 1)
    | none => 0
def chkS (most : Int) (l : List Blk) : Int := if inR_ most 0 100000 = false then 2 else if l.length > 256 then 5 else chkB most l l.length 0
theorem chkB_step {most l k i b R} (hb : l[i]? = some b) (h : chkB most l (k + 1) i = R) : (blkErr most (prevL l i) b ≠ 0 → blkErr most (prevL l i) b = R) ∧ (blkErr most (prevL l i) b = 0 → chkB most l k (i + 1) = R) := by
  rw [chkB, hb] at h
  simp only [] at h
  constructor
  · intro h1; rw [if_pos h1] at h; exact h
  · intro h1; rw [if_neg (by simp [h1])] at h; exact h

def I19 (l : List Blk) (most : Int) (sv : PV) (H : Heap) (i : Nat) (st : St) : Prop :=
  ∃ g : List AObj, chkB most l (l.length - i) i = chkB most l l.length 0 ∧
    st = ⟨[.agg [.int .i64 most, sv], .ref H.length 0 0 0 2, .int .i64 0, gv st 3, gv st 4, gv st 5, gv st 6, gv st 7, gv st 8, gv st 9, gv st 10, gv st 11, gv st 12, gv st 13, gv st 14, sv, .int .i64 l.length, .int .i64 i, gv st 18, gv st 19, gv st 20, gv st 21, gv st 22, gv st 23, gv st 24, gv st 25, gv st 26, gv st 27, gv st 28, gv st 29, gv st 30, gv st 31, gv st 32, gv st 33, gv st 34, gv st 35, gv st 36, gv st 37, gv st 38, gv st 39, gv st 40, gv st 41, gv st 42, gv st 43, gv st 44, gv st 45, gv st 46, gv st 47, gv st 48, gv st 49, gv st 50, gv st 51, gv st 52, gv st 53, gv st 54, gv st 55, gv st 56, gv st 57, gv st 58, gv st 59, gv st 60, gv st 61, gv st 62, gv st 63, gv st 64, gv st 65, gv st 66, gv st 67, gv st 68, gv st 69, gv st 70], (⟨[.int .i64 most, sv], 0, 0⟩ :: g) :: H, []⟩
set_option maxRecDepth 100000 in
set_option maxHeartbeats 2000000 in
theorem chk19h {H : Heap} {most sv l} (hs : BV H sv l) (hw : ∀ b ∈ l, b.who.size ≤ maxL) : WC C 19 [.agg [.int .i64 most, sv]] H fun v' H' d => v' = .int .i64 (chkS most l) ∧ H' = H ∧ d = [] := by
  refine WC_own (fn := Tryd.f19) Tryd.func19 rfl rfl rfl (Or.inl rfl) ?_; simp only [Tryd.f19, List.replicate, List.length_cons, List.length_nil, Nat.reduceSub, Nat.reduceAdd, List.cons_append, List.nil_append]
  have hdr := dr_19; simp only [drwF, Tryd.f19, drw, cond_true, cond_false, List.append_nil, List.nil_append, List.cons_append, List.map_cons, List.map_nil, List.cons.injEq, and_true] at hdr
  simp -dsimp -implicitDefEqProofs only [go_sem, C_P, C_deep, reduceCtorEq, Nat.reduceAdd, Nat.reduceLeDiff, Nat.reduceLT, Nat.reduceEqDiff, Nat.reduceMul, Nat.reduceSub, Nat.reducePow, Int.reduceToNat, Int.reduceLE, Int.reduceLT, Int.reduceEq, WCh_pure (in49 _ _ _)]
  unfold chkS
  refine Br_intro (fun h => ?_) (fun h => ?_)
  · simp -dsimp -implicitDefEqProofs only [go_sem, C_P, C_deep, reduceCtorEq, Nat.reduceAdd, Nat.reduceLeDiff, Nat.reduceLT, Nat.reduceEqDiff, Nat.reduceMul, Nat.reduceSub, Nat.reducePow, Int.reduceToNat, Int.reduceLE, Int.reduceLT, Int.reduceEq]
    rw [if_pos (by simpa using h)]
  · rw [if_neg (by simpa using h)]
    simp -dsimp -implicitDefEqProofs only [go_sem, C_P, C_deep, reduceCtorEq, Nat.reduceAdd, Nat.reduceLeDiff, Nat.reduceLT, Nat.reduceEqDiff, Nat.reduceMul, Nat.reduceSub, Nat.reducePow, Int.reduceToNat, Int.reduceLE, Int.reduceLT, Int.reduceEq, hs.len]
    refine Br_intro (fun h => ?_) (fun h => ?_)
    · simp -dsimp -implicitDefEqProofs only [go_sem, C_P, C_deep, reduceCtorEq, Nat.reduceAdd, Nat.reduceLeDiff, Nat.reduceLT, Nat.reduceEqDiff, Nat.reduceMul, Nat.reduceSub, Nat.reducePow, Int.reduceToNat, Int.reduceLE, Int.reduceLT, Int.reduceEq]
      rw [if_pos (by have := of_decide_eq_true h; omega)]
    · have hn : l.length ≤ 256 := by have := of_decide_eq_false h; omega
      rw [if_neg (by omega)]
      simp -dsimp -implicitDefEqProofs only [go_sem, C_P, C_deep, reduceCtorEq, Nat.reduceAdd, Nat.reduceLeDiff, Nat.reduceLT, Nat.reduceEqDiff, Nat.reduceMul, Nat.reduceSub, Nat.reducePow, Int.reduceToNat, Int.reduceLE, Int.reduceLT, Int.reduceEq, hs.len]
      refine WL_for l.length (I19 l most sv H) ⟨[], rfl, rfl⟩ ?_ ?_
      · rintro i st hi ⟨g, hR, hst⟩
        rw [hst]
        generalize gv st = x
        have hd : decide ((i : Int) < l.length) = true := by simp; omega
        have hk : l.length - i = (l.length - (i + 1)) + 1 := by omega
        obtain ⟨b, hb⟩ : ∃ b, l[i]? = some b := ⟨_, List.getElem?_eq_getElem hi⟩
        rw [hk] at hR
        obtain ⟨hR1, hR2⟩ := chkB_step hb hR
        obtain ⟨ad, ad0, hv, hvl, _, _⟩ := hs.get hb
        cases h1 : inR_ b.len 1 100000 with
        | false =>
          have he : blkErr most (prevL l i) b = 2 := by unfold blkErr; rw [if_pos h1]
          rw [he] at hR1
          simp -dsimp -implicitDefEqProofs only [go_sem, C_P, C_deep, reduceCtorEq, Nat.reduceAdd, Nat.reduceLeDiff, Nat.reduceLT, Nat.reduceEqDiff, Nat.reduceMul, Nat.reduceSub, Nat.reducePow, Int.reduceToNat, Int.reduceLE, Int.reduceLT, Int.reduceEq, hd, hv, hvl, WCh_pure (in49 _ _ _), h1, ← hR1 (by decide)]
        | true =>
        cases h2 : inR_ b.wear 0 100000 with
        | false =>
          have he : blkErr most (prevL l i) b = 2 := by unfold blkErr; rw [if_neg (by simp [h1]), if_pos h2]
          rw [he] at hR1
          simp -dsimp -implicitDefEqProofs only [go_sem, C_P, C_deep, reduceCtorEq, Nat.reduceAdd, Nat.reduceLeDiff, Nat.reduceLT, Nat.reduceEqDiff, Nat.reduceMul, Nat.reduceSub, Nat.reducePow, Int.reduceToNat, Int.reduceLE, Int.reduceLT, Int.reduceEq, hd, hv, hvl, WCh_pure (in49 _ _ _), h1, h2, ← hR1 (by decide)]
        | true =>
        cases h3 : inR_ b.uses 0 1048576 with
        | false =>
          have he : blkErr most (prevL l i) b = 2 := by unfold blkErr; rw [if_neg (by simp [h1]), if_neg (by simp [h2]), if_pos h3]
          rw [he] at hR1
          simp -dsimp -implicitDefEqProofs only [go_sem, C_P, C_deep, reduceCtorEq, Nat.reduceAdd, Nat.reduceLeDiff, Nat.reduceLT, Nat.reduceEqDiff, Nat.reduceMul, Nat.reduceSub, Nat.reducePow, Int.reduceToNat, Int.reduceLE, Int.reduceLT, Int.reduceEq, hd, hv, hvl, WCh_pure (in49 _ _ _), h1, h2, h3, ← hR1 (by decide)]
        | true =>
        have hbm := hw b (List.mem_of_getElem? hb)
        have hlet := let50 b.who hbm
        have htail : ∀ y : Nat → PV, True := fun _ => trivial
        simp -dsimp -implicitDefEqProofs only [go_sem, C_P, C_deep, reduceCtorEq, Nat.reduceAdd, Nat.reduceLeDiff, Nat.reduceLT, Nat.reduceEqDiff, Nat.reduceMul, Nat.reduceSub, Nat.reducePow, Int.reduceToNat, Int.reduceLE, Int.reduceLT, Int.reduceEq, hd, hv, hvl, WCh_pure (in49 _ _ _), h1, h2, h3, ↓W_drawnL hdr]
        refine Br_intro (fun h4 => ?_) (fun h4 => ?_)
        · have hi0 : 0 < i := by have := of_decide_eq_true h4; omega
          obtain ⟨q, hq⟩ : ∃ q, l[i - 1]? = some q := ⟨_, List.getElem?_eq_getElem (show i - 1 < l.length by omega)⟩
          obtain ⟨qd, qd0, hqv, _, hqf, hql⟩ := hs.get hq
          have hpl : prevL l i = some q.len := by unfold prevL; rw [if_pos hi0, hq]; rfl
          have hsub : IntKind.i64.wrap ((i : Int) - 1) = ((i - 1 : Nat) : Int) := by rw [wrap64 (by omega)]; omega
          simp -dsimp -implicitDefEqProofs only [go_sem, C_P, C_deep, reduceCtorEq, Nat.reduceAdd, Nat.reduceLeDiff, Nat.reduceLT, Nat.reduceEqDiff, Nat.reduceMul, Nat.reduceSub, Nat.reducePow, Int.reduceToNat, Int.reduceLE, Int.reduceLT, Int.reduceEq, h4, hsub, hqv, hqf, hql]
          refine Br_intro (fun h5 => ?_) (fun h5 => ?_)
          · have he : blkErr most (prevL l i) b = 9 := by
              unfold blkErr; rw [if_neg (by simp [h1]), if_neg (by simp [h2]), if_neg (by simp [h3]), if_pos (by rw [hpl]; exact h5)]
            rw [he] at hR1
            simp -dsimp -implicitDefEqProofs only [go_sem, C_P, C_deep, reduceCtorEq, Nat.reduceAdd, Nat.reduceLeDiff, Nat.reduceLT, Nat.reduceEqDiff, Nat.reduceMul, Nat.reduceSub, Nat.reducePow, Int.reduceToNat, Int.reduceLE, Int.reduceLT, Int.reduceEq, ← hR1 (by decide)]
          · have hge : geP (prevL l i) b.len = false := by rw [hpl]; exact h5
            simp -dsimp -implicitDefEqProofs only [go_sem, C_P, C_deep, reduceCtorEq, Nat.reduceAdd, Nat.reduceLeDiff, Nat.reduceLT, Nat.reduceEqDiff, Nat.reduceMul, Nat.reduceSub, Nat.reducePow, Int.reduceToNat, Int.reduceLE, Int.reduceLT, Int.reduceEq, WCh_pure hlet]
            refine Br_intro (fun h5 => ?_) (fun h5 => ?_)
            · have h5' : letF b.who ≠ 0 := by simpa using h5
              have he : blkErr most (prevL l i) b = letF b.who := by
                unfold blkErr; rw [if_neg (by simp [h1]), if_neg (by simp [h2]), if_neg (by simp [h3]), if_neg (by simp [hge]), if_pos h5']
              rw [he] at hR1
              simp -dsimp -implicitDefEqProofs only [go_sem, C_P, C_deep, reduceCtorEq, Nat.reduceAdd, Nat.reduceLeDiff, Nat.reduceLT, Nat.reduceEqDiff, Nat.reduceMul, Nat.reduceSub, Nat.reducePow, Int.reduceToNat, Int.reduceLE, Int.reduceLT, Int.reduceEq, hR1 h5']
            · have h5' : letF b.who = 0 := by simpa using h5
              simp -dsimp -implicitDefEqProofs only [go_sem, C_P, C_deep, reduceCtorEq, Nat.reduceAdd, Nat.reduceLeDiff, Nat.reduceLT, Nat.reduceEqDiff, Nat.reduceMul, Nat.reduceSub, Nat.reducePow, Int.reduceToNat, Int.reduceLE, Int.reduceLT, Int.reduceEq]
              have hb0 : blkErr most (prevL l i) b = if b.wear > most ∧ b.who.size ≠ 0 then 14 else 0 := by
                unfold blkErr; rw [if_neg (by simp [h1]), if_neg (by simp [h2]), if_neg (by simp [h3]), if_neg (by simp [hge]), if_neg (by simp [h5'])]
              refine Br_intro (fun h6 => ?_) (fun h6 => ?_)
              · simp -dsimp -implicitDefEqProofs only [go_sem, C_P, C_deep, reduceCtorEq, Nat.reduceAdd, Nat.reduceLeDiff, Nat.reduceLT, Nat.reduceEqDiff, Nat.reduceMul, Nat.reduceSub, Nat.reducePow, Int.reduceToNat, Int.reduceLE, Int.reduceLT, Int.reduceEq, h6, str_empty]
                refine Br_intro (fun h7 => ?_) (fun h7 => ?_)
                · have he : blkErr most (prevL l i) b = 14 := by rw [hb0, if_pos ⟨of_decide_eq_true h6, by simpa using h7⟩]
                  rw [he] at hR1
                  simp -dsimp -implicitDefEqProofs only [go_sem, C_P, C_deep, reduceCtorEq, Nat.reduceAdd, Nat.reduceLeDiff, Nat.reduceLT, Nat.reduceEqDiff, Nat.reduceMul, Nat.reduceSub, Nat.reducePow, Int.reduceToNat, Int.reduceLE, Int.reduceLT, Int.reduceEq, ← hR1 (by decide)]
                · have he : blkErr most (prevL l i) b = 0 := by rw [hb0, if_neg (fun hh => hh.2 (by simpa using h7))]
                  simp -dsimp -implicitDefEqProofs only [go_sem, C_P, C_deep, reduceCtorEq, Nat.reduceAdd, Nat.reduceLeDiff, Nat.reduceLT, Nat.reduceEqDiff, Nat.reduceMul, Nat.reduceSub, Nat.reducePow, Int.reduceToNat, Int.reduceLE, Int.reduceLT, Int.reduceEq, wrap_succ (show i < 9223372036854775807 by omega)]
                  exact ⟨_, hR2 he, rfl⟩
              · have he : blkErr most (prevL l i) b = 0 := by rw [hb0, if_neg (fun hh => of_decide_eq_false h6 hh.1)]
                simp -dsimp -implicitDefEqProofs only [go_sem, C_P, C_deep, reduceCtorEq, Nat.reduceAdd, Nat.reduceLeDiff, Nat.reduceLT, Nat.reduceEqDiff, Nat.reduceMul, Nat.reduceSub, Nat.reducePow, Int.reduceToNat, Int.reduceLE, Int.reduceLT, Int.reduceEq, h6, wrap_succ (show i < 9223372036854775807 by omega)]
                exact ⟨_, hR2 he, rfl⟩
        · have hge : geP (prevL l i) b.len = false := by
            unfold prevL; rw [if_neg (by have := of_decide_eq_false h4; omega)]; rfl
          simp -dsimp -implicitDefEqProofs only [go_sem, C_P, C_deep, reduceCtorEq, Nat.reduceAdd, Nat.reduceLeDiff, Nat.reduceLT, Nat.reduceEqDiff, Nat.reduceMul, Nat.reduceSub, Nat.reducePow, Int.reduceToNat, Int.reduceLE, Int.reduceLT, Int.reduceEq, h4]
          simp -dsimp -implicitDefEqProofs only [go_sem, C_P, C_deep, reduceCtorEq, Nat.reduceAdd, Nat.reduceLeDiff, Nat.reduceLT, Nat.reduceEqDiff, Nat.reduceMul, Nat.reduceSub, Nat.reducePow, Int.reduceToNat, Int.reduceLE, Int.reduceLT, Int.reduceEq, WCh_pure hlet]
          refine Br_intro (fun h5 => ?_) (fun h5 => ?_)
          · have h5' : letF b.who ≠ 0 := by simpa using h5
            have he : blkErr most (prevL l i) b = letF b.who := by
              unfold blkErr; rw [if_neg (by simp [h1]), if_neg (by simp [h2]), if_neg (by simp [h3]), if_neg (by simp [hge]), if_pos h5']
            rw [he] at hR1
            simp -dsimp -implicitDefEqProofs only [go_sem, C_P, C_deep, reduceCtorEq, Nat.reduceAdd, Nat.reduceLeDiff, Nat.reduceLT, Nat.reduceEqDiff, Nat.reduceMul, Nat.reduceSub, Nat.reducePow, Int.reduceToNat, Int.reduceLE, Int.reduceLT, Int.reduceEq, hR1 h5']
          · have h5' : letF b.who = 0 := by simpa using h5
            simp -dsimp -implicitDefEqProofs only [go_sem, C_P, C_deep, reduceCtorEq, Nat.reduceAdd, Nat.reduceLeDiff, Nat.reduceLT, Nat.reduceEqDiff, Nat.reduceMul, Nat.reduceSub, Nat.reducePow, Int.reduceToNat, Int.reduceLE, Int.reduceLT, Int.reduceEq]
            have hb0 : blkErr most (prevL l i) b = if b.wear > most ∧ b.who.size ≠ 0 then 14 else 0 := by
              unfold blkErr; rw [if_neg (by simp [h1]), if_neg (by simp [h2]), if_neg (by simp [h3]), if_neg (by simp [hge]), if_neg (by simp [h5'])]
            refine Br_intro (fun h6 => ?_) (fun h6 => ?_)
            · simp -dsimp -implicitDefEqProofs only [go_sem, C_P, C_deep, reduceCtorEq, Nat.reduceAdd, Nat.reduceLeDiff, Nat.reduceLT, Nat.reduceEqDiff, Nat.reduceMul, Nat.reduceSub, Nat.reducePow, Int.reduceToNat, Int.reduceLE, Int.reduceLT, Int.reduceEq, h6, str_empty]
              refine Br_intro (fun h7 => ?_) (fun h7 => ?_)
              · have he : blkErr most (prevL l i) b = 14 := by rw [hb0, if_pos ⟨of_decide_eq_true h6, by simpa using h7⟩]
                rw [he] at hR1
                simp -dsimp -implicitDefEqProofs only [go_sem, C_P, C_deep, reduceCtorEq, Nat.reduceAdd, Nat.reduceLeDiff, Nat.reduceLT, Nat.reduceEqDiff, Nat.reduceMul, Nat.reduceSub, Nat.reducePow, Int.reduceToNat, Int.reduceLE, Int.reduceLT, Int.reduceEq, ← hR1 (by decide)]
              · have he : blkErr most (prevL l i) b = 0 := by rw [hb0, if_neg (fun hh => hh.2 (by simpa using h7))]
                simp -dsimp -implicitDefEqProofs only [go_sem, C_P, C_deep, reduceCtorEq, Nat.reduceAdd, Nat.reduceLeDiff, Nat.reduceLT, Nat.reduceEqDiff, Nat.reduceMul, Nat.reduceSub, Nat.reducePow, Int.reduceToNat, Int.reduceLE, Int.reduceLT, Int.reduceEq, wrap_succ (show i < 9223372036854775807 by omega)]
                exact ⟨_, hR2 he, rfl⟩
            · have he : blkErr most (prevL l i) b = 0 := by rw [hb0, if_neg (fun hh => of_decide_eq_false h6 hh.1)]
              simp -dsimp -implicitDefEqProofs only [go_sem, C_P, C_deep, reduceCtorEq, Nat.reduceAdd, Nat.reduceLeDiff, Nat.reduceLT, Nat.reduceEqDiff, Nat.reduceMul, Nat.reduceSub, Nat.reducePow, Int.reduceToNat, Int.reduceLE, Int.reduceLT, Int.reduceEq, h6, wrap_succ (show i < 9223372036854775807 by omega)]
              exact ⟨_, hR2 he, rfl⟩
      · rintro st ⟨g, hR, hst⟩
        rw [hst]
        generalize gv st = x
        rw [Nat.sub_self, chkB] at hR
        simp -dsimp -implicitDefEqProofs only [go_sem, C_P, C_deep, reduceCtorEq, Nat.reduceAdd, Nat.reduceLeDiff, Nat.reduceLT, Nat.reduceEqDiff, Nat.reduceMul, Nat.reduceSub, Nat.reducePow, Int.reduceToNat, Int.reduceLE, Int.reduceLT, Int.reduceEq, ← hR]
theorem chk19 {most sv l} (hs : SV sv (blks l)) (hw : ∀ b ∈ l, b.who.size ≤ maxL) : Pure C 19 [.agg [.int .i64 most, sv]] (.int .i64 (chkS most l)) := fun _ => chk19h (BV.of hs) hw
end Go.Proofs.YtbcmiddffckgmaaDoor.Am
