/- The abstract machine's run is the machine's. -/
import Derived.Test.YtbcmiddffckgmaaDoorAm14
set_option linter.unusedVariables false
set_option linter.unusedSimpArgs false
set_option linter.unnecessarySimpa false
namespace Go.Proofs.YtbcmiddffckgmaaDoor.Am
open Go

theorem run_step {C : Cfg} (horc : OrcOk C) {k : Nat} (hcs : CallS C k) {m h i : Nat} {ops : Array Oper} {rest : List Nat} {st st' : St} (hx : runOps C (k + 1) m h ops (i :: rest) st = some st')
    {ρ : Rho} {w : World} {a : Act} (hrel : Rel ρ w st a) {K : Act → World → Prop} {Q : Exit → Act → World → Prop}
    (hK : ∀ ρ1 w1 a1 st1, runOps C k m h ops rest st1 = some st' → Rel ρ1 w1 st1 a1 → Ext ρ w ρ1 w1 → Frs (curD st.H) m ρ w st1.wr w1 → st1.H.length = st.H.length → (∀ p ∈ st.wr, p ∈ st1.wr) → K a1 w1) : wpOp C.P ops Q i K a w := by
  simp only [runOps] at hx
  split at hx
  · cases hx
  rename_i o ho
  unfold wpOp
  rw [ho]
  simp only
  have hwe : Region.wanted o (yielded ops a.tmps) = wantedP o ops st.ts := wanted_eq fun j want t _ _ => guard_rel hrel.ts t
  rw [hwe]
  split at hx
  · rename_i hw
    rw [if_pos hw]
    simp only [Option.bind_eq_some_iff] at hx
    obtain ⟨⟨v, H', d⟩, hs, hx⟩ := hx
    simp only at hx
    split at hx
    · cases hx
    refine .inl (one_sound horc hcs hs hrel.heap hrel.ne (.of hrel.ts _) fun val w1 ρ1 h1 h2 h3 h4 => ?_)
    have hlen : H'.length = st.H.length := by
      split at hs
      · exact (facts C k).call _ _ _ _ _ _ hs
      · exact opP_length hs
    exact hK ρ1 w1 _ _ hx ⟨h1, ne_of_len hlen hrel.ne, LV_put (LV.ext h2 _ _ hrel.ts) h3 _, by rw [put_defers]; exact hrel.df⟩ h2 h4.frs hlen fun p hp => mem_addWs_old hp
  · rename_i hw
    rw [if_neg hw]
    exact hK ρ w _ _ hx ⟨hrel.heap, hrel.ne, LV_put hrel.ts (VR_undef _ _) _, by rw [put_defers]; exact hrel.df⟩ (.refl _ _) (.refl _ _ _ _ _) rfl fun p hp => hp

theorem mem_ready {ops : Array Oper} {l : Array Bool} (hl : l.size = ops.size) {i : Nat} : i ∈ Region.ready .any ops l ↔ ∃ o, ops[i]? = some o ∧ l[i]? = some false ∧ ∀ d ∈ deps o, l[d]? = some true := by
  unfold Region.ready
  rw [List.mem_filter, List.mem_range, Bool.and_eq_true]
  have hget : ∀ (j : Nat) (b : Bool), l.getD j b = (l[j]?).getD b := fun j b => Array.getD_eq_getD_getElem? ..
  constructor
  · rintro ⟨h1, h2, h3⟩
    have ho : ops[i]? = some ops[i] := Array.getElem?_eq_getElem h1
    have hli : l[i]? = some (l[i]'(by omega)) := Array.getElem?_eq_getElem (by omega)
    refine ⟨ops[i], ho, ?_, fun d hd => ?_⟩
    · rw [hget, hli] at h2
      simp at h2
      rw [hli, h2]
    · rw [ho] at h3
      simp only [Option.map_some, Option.getD_some] at h3
      unfold deps at hd
      obtain ⟨e, he, hde⟩ := List.mem_filterMap.1 hd
      rw [Array.all_eq_true'] at h3
      have h4 := h3 e (by simpa using he)
      split at hde
      · rename_i hb
        cases hde
        rw [hb, hget] at h4
        simp only [Bool.not_true, Bool.false_or] at h4
        cases hd' : l[e.on]? with
        | none => rw [hd'] at h4; simp at h4
        | some b => rw [hd'] at h4; simp at h4; rw [h4]
      · cases hde
  · rintro ⟨o, ho, h1, h2⟩
    have hlt : i < ops.size := (Array.getElem?_eq_some_iff.1 ho).1
    refine ⟨hlt, by rw [hget, h1]; rfl, ?_⟩
    rw [ho]
    simp only [Option.map_some, Option.getD_some]
    rw [Array.all_eq_true']
    intro e he
    cases hb : Region.binds .any e with
    | false => rfl
    | true =>
      have := h2 e.on (by unfold deps; exact List.mem_filterMap.2 ⟨e, by simpa using he, by rw [if_pos hb]⟩)
      rw [hget, this]; rfl

def cntF (l : Array Bool) : Nat := l.toList.countP fun b => !b

theorem cntF_set {l : Array Bool} {i : Nat} (h : l[i]? = some false) : cntF (l.setIfInBounds i true) + 1 = cntF l := by
  unfold cntF
  obtain ⟨hlt, hv⟩ := Array.getElem?_eq_some_iff.1 h
  rw [Array.toList_setIfInBounds, List.countP_set (by simpa using hlt)]
  have hget : l.toList[i]'(by simpa using hlt) = false := by simpa using hv
  rw [hget]
  have : 0 < l.toList.countP fun b => !b := by
    rw [List.countP_pos_iff]
    exact ⟨false, by rw [← hget]; exact List.getElem_mem _, rfl⟩
  simp only [Bool.not_false, if_true, Bool.not_true, Bool.false_eq_true, if_false]
  omega

theorem cntF_ge {l : Array Bool} {n j : Nat} (hs : l.size = n) (h : ∀ i, i < n → (l[i]? = some true ↔ i < j)) (hj : j ≤ n) : n - j ≤ cntF l := by
  unfold cntF
  have h1 : (l.toList.drop j).countP (fun b => !b) = (l.toList.drop j).length := by
    rw [List.countP_eq_length]
    intro b hb
    obtain ⟨k, hk⟩ := List.getElem?_of_mem hb
    rw [List.getElem?_drop] at hk
    have hk' : l[j + k]? = some b := by simpa using hk
    have hlt : j + k < n := by rw [← hs]; exact (Array.getElem?_eq_some_iff.1 hk').1
    cases b with
    | false => rfl
    | true => have := (h (j + k) hlt).1 hk'; omega
  have h2 : (l.toList.drop j).countP (fun b => !b) ≤ l.toList.countP fun b => !b := List.Sublist.countP_le (List.drop_sublist j _)
  simp at h1
  rw [h1] at h2
  omega

section
variable {C : Cfg} {ops : Array Oper}

theorem tail_any (horc : OrcOk C) {k : Nat} (hcs : ∀ j, j < k → CallS C j) (hok : drawOk ops.toList (befs ops.toList) = true) {m : Nat} {st' : St} {D : Nat} {ρ0 : Rho} {w0 : World} {Q : Exit → Act → World → Prop}
    (hQ : ∀ ρ' w' a', Rel ρ' w' st' a' → Ext ρ0 w0 ρ' w' → Frs D m ρ0 w0 st'.wr w' → Q .normal a' w') :
    ∀ (cnt j kk fuel : Nat) (l : Array Bool) (st : St) (ρ : Rho) (w : World) (a : Act), cnt = ops.size - j → headLen (befs ops.toList) ≤ j → j ≤ ops.size → l.size = ops.size → (∀ i, i < ops.size → (l[i]? = some true ↔ i < j)) →
      kk ≤ k → cnt ≤ fuel → runOps C kk m (headLen (befs ops.toList)) ops (List.range' j cnt) st = some st' → Rel ρ w st a → Ext ρ0 w0 ρ w → Frs D m ρ0 w0 st.wr w → curD st.H = D → wpAny C.P .any ops Q fuel l a w := by
  intro cnt
  induction cnt with
  | zero =>
    intro j kk fuel l st ρ w a hc hh hj hs hl hkk hf hx hrel hext hfr hD
    have hq : Q .normal a w := by
      cases kk with
      | zero => simp [runOps] at hx
      | succ kk =>
        simp only [List.range'_zero, runOps, Option.some.injEq] at hx
        subst hx
        exact hQ ρ w a hrel hext hfr
    have hr : Region.ready .any ops l = [] := by
      rw [List.eq_nil_iff_forall_not_mem]
      intro i hi
      obtain ⟨o, ho, h1, _⟩ := (mem_ready hs).1 hi
      have hlt : i < ops.size := (Array.getElem?_eq_some_iff.1 ho).1
      have := (hl i hlt).2 (by omega)
      rw [this] at h1; cases h1
    cases fuel with
    | zero => exact ⟨hr, hq⟩
    | succ fuel => exact ⟨fun _ => hq, fun i hi => by rw [hr] at hi; simp at hi⟩
  | succ cnt ih =>
    intro j kk fuel l st ρ w a hc hh hj hs hl hkk hf hx hrel hext hfr hD
    have hlt : j < ops.size := by omega
    have hoj : ops[j]? = some ops[j] := Array.getElem?_eq_getElem hlt
    have hbit : ∀ i, i < ops.size → ¬ i < j → l[i]? = some false := by
      intro i hi hnj
      have h1 : l[i]? = some (l[i]'(by omega)) := Array.getElem?_eq_getElem (by omega)
      cases hb : l[i]'(by omega) with
      | false => rw [h1, hb]
      | true => exact absurd ((hl i hi).1 (by rw [h1, hb])) hnj
    have hready : j ∈ Region.ready .any ops l := (mem_ready hs).2 ⟨ops[j], hoj, hbit j hlt (by omega), fun d hd => by
      have := (drawOk_spec hok (show ops.toList[j]? = some ops[j] by simpa using hoj)).1 d hd
      exact (hl d (by omega)).2 this⟩
    cases fuel with
    | zero => omega
    | succ fuel =>
      refine ⟨fun hr => by rw [hr] at hready; simp at hready, fun i hi => ?_⟩
      obtain ⟨o, ho, h1, h2⟩ := (mem_ready hs).1 hi
      have hilt : i < ops.size := (Array.getElem?_eq_some_iff.1 ho).1
      have hij : i = j := by
        rcases Nat.lt_trichotomy i j with h3 | h3 | h3
        · have := (hl i hilt).2 h3; rw [this] at h1; cases h1
        · exact h3
        · have hfull := head_full (ol := ops.toList) (j := i) (by omega) (by simpa using hilt) j h3
          have hcl : ∀ (j' : Nat) (o' : Oper), l[j']? = some true → ops.toList[j']? = some o' → ∀ d ∈ deps o', l[d]? = some true := by
            intro j' o' hj' ho' d hd
            have hlt' : j' < ops.size := by have := (List.getElem?_eq_some_iff.1 ho').1; simpa using this
            have := (drawOk_spec hok ho').1 d hd
            exact (hl d (by omega)).2 (by have := (hl j' hlt').1 hj'; omega)
          have := row_closed (L := fun j => l[j]? = some true) hcl i o (by simpa using ho) h2 j hfull
          rw [hbit j hlt (by omega)] at this; cases this
      subst hij
      rw [List.range'_succ] at hx
      cases kk with
      | zero => simp [runOps] at hx
      | succ kk =>
        refine run_step horc (hcs kk (by omega)) hx hrel fun ρ1 w1 a1 st1 hx1 r1 r2 r3 r4 r5 => ?_
        have hfr1 : Frs D m ρ0 w0 st1.wr w1 := by
          rw [hD] at r3
          exact hfr.trans hext r3 r5
        refine ih (i + 1) kk fuel _ st1 ρ1 w1 a1 (by omega) (by omega) (by omega) (by simp [hs]) ?_ (by omega) (by omega) hx1 r1 (hext.trans r2) hfr1 (by rw [curD_eq r4]; exact hD)
        intro i' hi'
        by_cases e : i' = i
        · subst e
          have : i' < l.size := by omega
          simp [this]
        · rw [Array.getElem?_setIfInBounds_ne (fun e' => e e'.symm), hl i' hi']
          omega

theorem head_any (horc : OrcOk C) {k : Nat} (hcs : ∀ j, j < k → CallS C j) (hok : drawOk ops.toList (befs ops.toList) = true) {m : Nat} {st st' : St} {T : Nat → List PV} {HH : Nat → Heap} {V : Nat → PV} {kk : Nat}
    (hT0 : T 0 = st.ts) (hH0 : HH 0 = st.H)
    (htr : ∀ j, j < headLen (befs ops.toList) → ∃ o, ops[j]? = some o ∧ T (j + 1) = putP (T j) o.dst (V j) ∧
        ((wantedP o ops (T j) = false ∧ V j = undefP ∧ HH (j + 1) = HH j) ∨ (wantedP o ops (T j) = true ∧ ∃ k', k' < k ∧ stepP C k' (T j) (HH j) o = some (V j, HH (j + 1), []))))
    (hkk : kk ≤ k) (htail : runOps C kk m (headLen (befs ops.toList)) ops (List.range' (headLen (befs ops.toList)) (ops.size - headLen (befs ops.toList))) ⟨T (headLen (befs ops.toList)), HH (headLen (befs ops.toList)), st.wr⟩ = some st')
    (hne : ∀ j, j ≤ headLen (befs ops.toList) → HH j ≠ []) (hlen : ∀ j, j ≤ headLen (befs ops.toList) → (HH j).length = st.H.length)
    (hper : ∀ j j', j ≤ j' → j' ≤ headLen (befs ops.toList) → ∀ d i o, getO (HH j) d i = some o → getO (HH j') d i = some o)
    (hts : ∀ (t : Nat) (p : PV), (T 0)[t]? = some p → rok (inb (HH 0)) p = true)
    {ρ0 : Rho} {w0 : World} (hr0 : HRel ρ0 st.H w0) {Q : Exit → Act → World → Prop}
    (hQ : ∀ ρ' w' a', Rel ρ' w' st' a' → Ext ρ0 w0 ρ' w' → Frs (curD st.H) m ρ0 w0 st'.wr w' → Q .normal a' w') :
    ∀ (fuel : Nat) (l : Array Bool) (ρ : Rho) (w : World) (a : Act), cntF l ≤ fuel → Inv ops (headLen (befs ops.toList)) T HH V ρ0 w0 l ρ w a → wpAny C.P .any ops Q fuel l a w := by
  have hhle : headLen (befs ops.toList) ≤ ops.size := by have := headLen_le (befs ops.toList); rw [befs_length] at this; simpa using this
  have hT : ∀ j, j < headLen (befs ops.toList) → ∃ o, ops[j]? = some o ∧ T (j + 1) = putP (T j) o.dst (V j) := fun j hj => by obtain ⟨o, h1, h2, _⟩ := htr j hj; exact ⟨o, h1, h2⟩
  have huniq : ∀ (i j : Nat) (o o' : Oper) (t : Nat), ops[i]? = some o → ops[j]? = some o' → o.dst = some t → o'.dst = some t → i = j := by
    intro i j o o' t h1 h2 h3 h4
    have := (drawOk_spec hok (show ops.toList[j]? = some o' by simpa using h2)).2 i o t (by simpa using h1) h3
    rcases this with e | ⟨e, _⟩
    · exact e
    · exact absurd h4 e
  have bits : ∀ {ρ : Rho} {w : World} {a : Act} {l : Array Bool}, Inv ops (headLen (befs ops.toList)) T HH V ρ0 w0 l ρ w a → ∀ i, i < ops.size → l[i]? = some true ∨ l[i]? = some false := by
    intro ρ w a l hinv i hi
    have h1 : l[i]? = some (l[i]'(by rw [hinv.size]; exact hi)) := Array.getElem?_eq_getElem (by rw [hinv.size]; exact hi)
    cases hb : l[i]'(by rw [hinv.size]; exact hi) with
    | false => right; rw [h1, hb]
    | true => left; rw [h1, hb]
  have done : ∀ (fuel : Nat) (l : Array Bool) (ρ : Rho) (w : World) (a : Act), cntF l ≤ fuel → Inv ops (headLen (befs ops.toList)) T HH V ρ0 w0 l ρ w a → (∀ (j : Nat), j < headLen (befs ops.toList) → l[j]? = some true) → wpAny C.P .any ops Q fuel l a w := by
    intro fuel l ρ w a hc hinv hall
    have hiff : ∀ i, i < ops.size → (l[i]? = some true ↔ i < headLen (befs ops.toList)) := fun i hi => ⟨fun h1 => hinv.hd i h1, fun h1 => hall i h1⟩
    have hge := cntF_ge hinv.size hiff hhle
    have hts' : LV ρ w (T (headLen (befs ops.toList))) a.tmps.toList := by
      have hTl := T_len hT _ (Nat.le_refl _)
      refine LV_of_get _ _ (by rw [hTl]; simpa using hinv.len.symm) fun t p v hp hv => ?_
      have hv' : a.tmps[t]? = some v := by simpa using hv
      by_cases hex : ∃ (i : Nat) (o : Oper), i < headLen (befs ops.toList) ∧ ops[i]? = some o ∧ o.dst = some t
      · obtain ⟨i, o, hi, ho, hd⟩ := hex
        have hlt : t < (T 0).length := by
          rw [← hTl]
          exact (List.getElem?_eq_some_iff.1 hp).1
        obtain ⟨v', h1, h2⟩ := hinv.new i o t (hall i hi) ho hd hlt
        rw [hv'] at h1; cases h1
        have := T_new hT huniq t i o ho hd hlt _ (Nat.le_refl _) hi
        rw [hp] at this; cases this
        exact h2
      · have h0 := T_old hT t _ (Nat.le_refl _) fun i o h1 h2 h3 => hex ⟨i, o, h1, h2, h3⟩
        rcases hinv.old t (fun i o h1 h2 h3 => hex ⟨i, o, hinv.hd i h1, h2, h3⟩) with ⟨p', v', h1, h2, h3⟩ | ⟨h1, _⟩
        · rw [h0, h1] at hp; cases hp
          rw [hv'] at h2; cases h2
          exact h3
        · rw [h0, h1] at hp; cases hp
    have hext : Ext ρ0 w0 ρ w := by
      refine ⟨hinv.ext, fun d i he => ?_, fun d i u x e => ?_⟩
      · have h1 := (hr0.ex d i).1 he
        obtain ⟨o, ho⟩ := Option.isSome_iff_exists.1 h1
        rw [← hH0] at ho
        exact (hinv.heap.ex d i).2 (Option.isSome_iff_exists.2 ⟨o, hper 0 _ (Nat.zero_le _) (Nat.le_refl _) _ _ _ ho⟩)
      · rcases hinv.nw _ _ _ _ e with h1 | h1
        · exact .inl h1
        · refine .inr fun he => ?_
          have := (hr0.ex d i).1 he
          rw [hH0] at h1
          unfold inb at h1
          rw [this] at h1; cases h1
    refine tail_any horc hcs hok (D := curD st.H) hQ (ops.size - headLen (befs ops.toList)) (headLen (befs ops.toList)) kk fuel l _ ρ w a rfl (Nat.le_refl _) hhle hinv.size hiff hkk (by omega) htail
      ⟨hinv.heap, hne _ (Nat.le_refl _), hts', hinv.df⟩ hext (fun b hb => .inl (hinv.frm b hb)) (curD_eq (hlen _ (Nat.le_refl _)))
  intro fuel
  induction fuel with
  | zero =>
    intro l ρ w a hc hinv
    refine done 0 l ρ w a hc hinv fun j hj => ?_
    rcases bits hinv j (by omega) with h1 | h1
    · exact h1
    · have := cntF_set h1; omega
  | succ fuel ih =>
    intro l ρ w a hc hinv
    by_cases hall : ∀ (j : Nat), j < headLen (befs ops.toList) → l[j]? = some true
    · exact done _ l ρ w a hc hinv hall
    · obtain ⟨j0, hj0, hun0⟩ : ∃ (j : Nat), j < headLen (befs ops.toList) ∧ l[j]? = some false := by
        apply Classical.byContradiction
        intro hno
        refine hall fun j hj => ?_
        rcases bits hinv j (by omega) with h1 | h1
        · exact h1
        · exact absurd ⟨j, hj, h1⟩ hno
      obtain ⟨j, ⟨hj, hun⟩, hmin⟩ := exists_least (p := fun j => j < headLen (befs ops.toList) ∧ l[j]? = some false) ⟨j0, hj0, hun0⟩
      have hoj : ops[j]? = some ops[j] := Array.getElem?_eq_getElem (by omega)
      have hready : j ∈ Region.ready .any ops l := (mem_ready hinv.size).2 ⟨ops[j], hoj, hun, fun d hd => by
        have hdj := (drawOk_spec hok (show ops.toList[j]? = some ops[j] by simpa using hoj)).1 d hd
        rcases bits hinv d (by omega) with h1 | h1
        · exact h1
        · have := hmin d ⟨by omega, h1⟩; omega⟩
      refine ⟨fun hr => by rw [hr] at hready; simp at hready, fun i hi => ?_⟩
      obtain ⟨o, ho, h1, h2⟩ := (mem_ready hinv.size).1 hi
      have hilt : i < ops.size := (Array.getElem?_eq_some_iff.1 ho).1
      have hih : i < headLen (befs ops.toList) := by
        rcases Nat.lt_or_ge i (headLen (befs ops.toList)) with h3 | h3
        · exact h3
        · have hfull := head_full (ol := ops.toList) h3 (by simpa using hilt) j (by omega)
          have hcl : ∀ (j' : Nat) (o' : Oper), l[j']? = some true → ops.toList[j']? = some o' → ∀ d ∈ deps o', l[d]? = some true := fun j' o' a1 a2 => hinv.cl j' o' a1 (by simpa using a2)
          have := row_closed (L := fun j => l[j]? = some true) hcl i o (by simpa using ho) h2 j hfull
          rw [hun] at this; cases this
      have hcnt := cntF_set h1
      exact head_step horc hcs hhle hok htr hne hper hts hinv hih h1 ho h2 fun ρ' w' a' hinv' => ih _ ρ' w' a' (by omega) hinv'

end

end Go.Proofs.YtbcmiddffckgmaaDoor.Am
