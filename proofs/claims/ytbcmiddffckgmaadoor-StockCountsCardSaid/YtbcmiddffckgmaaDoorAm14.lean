/- Regions whose order is drawn: the run. -/
import Derived.Test.YtbcmiddffckgmaaDoorAm13
set_option linter.unusedVariables false
set_option linter.unusedSimpArgs false
set_option linter.unnecessarySimpa false
namespace Go.Proofs.YtbcmiddffckgmaaDoor.Am
open Go

theorem listed_set {l : Array Bool} {i j : Nat} (h : (l.setIfInBounds i true)[j]? = some true) (hne : j ≠ i) : l[j]? = some true := by
  rwa [Array.getElem?_setIfInBounds_ne (fun e => hne e.symm)] at h

/-- One operation of the head, in whatever order: what holds in between. -/
structure Inv (ops : Array Oper) (h : Nat) (T : Nat → List PV) (HH : Nat → Heap) (V : Nat → PV) (ρ0 : Rho) (w0 : World) (l : Array Bool) (ρ : Rho) (w : World) (a : Act) : Prop where
  size : l.size = ops.size
  hd : ∀ (j : Nat), l[j]? = some true → j < h
  cl : ∀ (j : Nat) (o : Oper), l[j]? = some true → ops[j]? = some o → ∀ d ∈ deps o, l[d]? = some true
  heap : HRel ρ (HH h) w
  dom : ∀ d i u x, ρ d i u = some x → inb (HH 0) d i = true ∨ ∃ t : Nat, l[t]? = some true ∧ inb (HH t) d i = false ∧ inb (HH (t + 1)) d i = true
  cells : ∀ d i u x j o, ρ d i u = some x → j ≤ h → getO (HH j) d i = some o → rokL (inb (HH j)) o.cells = true
  old : ∀ (t : Nat), (∀ (i : Nat) (o : Oper), l[i]? = some true → ops[i]? = some o → o.dst ≠ some t) → (∃ p v, (T 0)[t]? = some p ∧ a.tmps[t]? = some v ∧ VR ρ w p v) ∨ ((T 0)[t]? = none ∧ a.tmps[t]? = none)
  new : ∀ (i : Nat) (o : Oper) (t : Nat), l[i]? = some true → ops[i]? = some o → o.dst = some t → t < (T 0).length → ∃ v, a.tmps[t]? = some v ∧ VR ρ w (V i) v
  vok : ∀ (i : Nat), l[i]? = some true → rok (inb (HH (i + 1))) (V i) = true
  len : a.tmps.size = (T 0).length
  df : a.defers = []
  ext : Ext0 ρ0 w0 ρ w
  frm : ∀ b, b < w0.heap.size → w.heap[b]? = w0.heap[b]?
  nw : ∀ d i u x, ρ d i u = some x → (∃ u' y, ρ0 d i u' = some y) ∨ inb (HH 0) d i = false

section
variable {C : Cfg} {ops : Array Oper} {T : Nat → List PV} {HH : Nat → Heap} {V : Nat → PV} {k : Nat}

theorem head_step (horc : OrcOk C) (hcs : ∀ j, j < k → CallS C j) {h : Nat} (hh : h ≤ ops.size)
    (hok : drawOk ops.toList (befs ops.toList) = true)
    (htr : ∀ j, j < h → ∃ o, ops[j]? = some o ∧ T (j + 1) = putP (T j) o.dst (V j) ∧
        ((wantedP o ops (T j) = false ∧ V j = undefP ∧ HH (j + 1) = HH j) ∨ (wantedP o ops (T j) = true ∧ ∃ k', k' < k ∧ stepP C k' (T j) (HH j) o = some (V j, HH (j + 1), []))))
    (hne : ∀ j, j ≤ h → HH j ≠ [])
    (hper : ∀ j j', j ≤ j' → j' ≤ h → ∀ d i o, getO (HH j) d i = some o → getO (HH j') d i = some o)
    (hts : ∀ (t : Nat) (p : PV), (T 0)[t]? = some p → rok (inb (HH 0)) p = true)
    {ρ0 : Rho} {w0 : World} {l : Array Bool} {ρ : Rho} {w : World} {a : Act} (hinv : Inv ops h T HH V ρ0 w0 l ρ w a)
    {i : Nat} (hi : i < h) (hun : l[i]? = some false) {o : Oper} (ho : ops[i]? = some o) (hdeps : ∀ d ∈ deps o, l[d]? = some true)
    {K : Act → World → Prop} {Q : Exit → Act → World → Prop} (hK : ∀ ρ' w' a', Inv ops h T HH V ρ0 w0 (l.setIfInBounds i true) ρ' w' a' → K a' w') : wpOp C.P ops Q i K a w := by
  have hoL : ops.toList[i]? = some o := by simpa using ho
  have hT : ∀ j, j < h → ∃ o, ops[j]? = some o ∧ T (j + 1) = putP (T j) o.dst (V j) := fun j hj => by obtain ⟨o, h1, h2, _⟩ := htr j hj; exact ⟨o, h1, h2⟩
  have huniq : ∀ (i j : Nat) (o o' : Oper) (t : Nat), ops[i]? = some o → ops[j]? = some o' → o.dst = some t → o'.dst = some t → i = j := by
    intro i j o o' t h1 h2 h3 h4
    have := (drawOk_spec hok (show ops.toList[j]? = some o' by simpa using h2)).2 i o t (by simpa using h1) h3
    rcases this with e | ⟨e, _⟩
    · exact e
    · exact absurd h4 e
  have hmono : ∀ j j', j ≤ j' → j' ≤ h → ∀ d i, inb (HH j) d i = true → inb (HH j') d i = true := fun j j' h1 h2 => rok_inb (hper j j' h1 h2)
  -- what is listed is closed
  have hcl : ∀ (j : Nat) (o : Oper), l[j]? = some true → ops.toList[j]? = some o → ∀ d ∈ deps o, l[d]? = some true := fun j o h1 h2 => hinv.cl j o h1 (by simpa using h2)
  have hrow : ∀ (i' : Nat), i' ∈ rowAt_ ops.toList i → l[i']? = some true := row_closed (L := fun j => l[j]? = some true) hcl i o hoL hdeps
  have hrow' : ∀ (j : Nat) (o' : Oper), l[j]? = some true → ops.toList[j]? = some o' → ∀ i', i' ∈ rowAt_ ops.toList j → l[i']? = some true := fun j o' h1 h2 => row_closed (L := fun j => l[j]? = some true) hcl j o' h2 (hcl j o' h1 h2)
  -- the slots that the operation names
  have slot : ∀ (t : Nat), t ∈ namesOf ops.toList o → (∃ p v, (T i)[t]? = some p ∧ a.tmps[t]? = some v ∧ VR ρ w p v ∧ rok (inb (HH i)) p = true) ∨ ((T i)[t]? = none ∧ a.tmps[t]? = none) := by
    intro t htn
    by_cases hex : ∃ (i' : Nat) (o' : Oper), i' < i ∧ ops[i']? = some o' ∧ o'.dst = some t
    · obtain ⟨i', o', hi', ho', hd'⟩ := hex
      have hrel := (drawOk_spec hok hoL).2 i' o' t (by simpa using ho') hd'
      have hmem : i' ∈ rowAt_ ops.toList i := by
        rcases hrel with e | ⟨_, e⟩
        · omega
        · rcases e htn with e | e
          · exact e
          · have := (mem_row (show ops.toList[i']? = some o' by simpa using ho') e).1; omega
      have hl := hrow i' hmem
      by_cases hlt : t < (T 0).length
      · obtain ⟨v, h1, h2⟩ := hinv.new i' o' t hl ho' hd' hlt
        exact .inl ⟨V i', v, T_new hT huniq t i' o' ho' hd' hlt i (by omega) hi', h1, h2, rok_mono (hmono _ _ (by omega) (by omega)) _ (hinv.vok i' hl)⟩
      · refine .inr ⟨List.getElem?_eq_none (by rw [T_len hT i (by omega)]; omega), Array.getElem?_eq_none (by rw [hinv.len]; omega)⟩
    · have hT0 := T_old hT t i (by omega) fun i' o' h1 h2 h3 => hex ⟨i', o', h1, h2, h3⟩
      have hnl : ∀ (i' : Nat) (o' : Oper), l[i']? = some true → ops[i']? = some o' → o'.dst ≠ some t := by
        intro i' o' h1 h2 h3
        have hne' : i' ≠ i := fun e => by rw [e, hun] at h1; cases h1
        rcases Nat.lt_or_ge i' i with h4 | h4
        · exact hex ⟨i', o', h4, h2, h3⟩
        · have hrel := (drawOk_spec hok hoL).2 i' o' t (by simpa using h2) h3
          rcases hrel with e | ⟨_, e⟩
          · exact hne' e
          · rcases e htn with e | e
            · have := (mem_row hoL e).1; omega
            · have := hrow' i' o' h1 (by simpa using h2) i e
              rw [hun] at this; cases this
      rcases hinv.old t hnl with ⟨p, v, h1, h2, h3⟩ | ⟨h1, h2⟩
      · exact .inl ⟨p, v, hT0.trans h1, h2, h3, rok_mono (hmono 0 i (by omega) (by omega)) _ (hts t p h1)⟩
      · exact .inr ⟨hT0.trans h1, h2⟩
  -- the relation as the operation sees it
  let G : Nat → Prop := fun b => ρ.G b ∨ ∃ d i' u n, ρ d i' u = some (b, n) ∧ inb (HH i) d i' = false
  let R : Rho := cutR ρ (inb (HH i)) G
  have hchg : Chg ρ R w (inb (HH i)) := by
    refine ⟨fun d i' u x h1 h2 => cutR_of h1 h2, fun b hb => ⟨hb.1, fun ⟨d, i', u, n, e⟩ => hb.2.1 ⟨d, i', u, n, (cutR_some e).1⟩, ?_⟩⟩
    rintro (e | ⟨d, i', u, n, e, _⟩)
    · exact hb.2.2 e
    · exact hb.2.1 ⟨d, i', u, n, e⟩
  have hRel : HRel R (HH i) w := by
    refine { obj := ?_, block := ?_, cov := ?_, res := ?_, low := ?_, ex := ?_, inj := ?_ }
    · intro d i' u b n e
      obtain ⟨e, hin⟩ := cutR_some e
      obtain ⟨o1, ho1, h1, h2, h3, h4, h5, h6⟩ := hinv.heap.obj _ _ _ _ _ e
      obtain ⟨o2, ho2⟩ := Option.isSome_iff_exists.1 hin
      have := hper i h (by omega) (Nat.le_refl _) _ _ _ ho2
      rw [ho1] at this; cases this
      exact ⟨o1, ho2, h1, h2, h3, fun hlo => CV.chg hchg _ _ _ (rokL_take _ _ (hinv.cells _ _ _ _ i o1 e (by omega) ho2)) (h4 hlo), h5, h6⟩
    · intro d i' u b n e
      exact hinv.heap.block _ _ _ _ _ (cutR_some e).1
    · intro d i' u x o1 e ho1 u' hu'
      obtain ⟨e, hin⟩ := cutR_some e
      obtain ⟨y, hy⟩ := hinv.heap.cov _ _ _ _ _ e (hper i h (by omega) (Nat.le_refl _) _ _ _ ho1) u' hu'
      exact ⟨y, cutR_of hy hin⟩
    · intro d i' u b n e
      obtain ⟨e, hin⟩ := cutR_some e
      rintro (e' | ⟨d', i'', u', n', e', hin'⟩)
      · exact hinv.heap.res _ _ _ _ _ e e'
      · obtain ⟨rfl, rfl⟩ := hinv.heap.inj _ _ _ _ _ _ _ _ _ e e'
        rw [hin] at hin'; cases hin'
    · intro b hb
      rcases hb with e' | ⟨d', i'', u', n', e', _⟩
      · exact hinv.heap.low b e'
      · exact hinv.heap.lt e'
    · intro d i'
      show (inb (HH i) d i' = true ∧ ρ.ex d i') ↔ _
      rw [hinv.heap.ex]
      exact ⟨fun hh => hh.1, fun hh => ⟨hh, hmono i h (by omega) (Nat.le_refl _) _ _ hh⟩⟩
    · intro d i' u b n d' i'' u' n' e e'
      exact hinv.heap.inj _ _ _ _ _ _ _ _ _ (cutR_some e).1 (cutR_some e').1
  have hev : EV R w (T i) a o.op.operands.toList := by
    intro x hx p hp
    cases x with
    | tmp t =>
      simp only [evalO, Option.some.injEq] at hp
      have htn : t ∈ namesOf ops.toList o := by
        unfold namesOf
        refine List.mem_append.2 (.inl (List.mem_filterMap.2 ⟨.tmp t, hx, rfl⟩))
      rcases slot t htn with ⟨q, v, h1, h2, h3, h4⟩ | ⟨h1, h2⟩
      · rw [h1] at hp; simp at hp; subst hp
        have : a.eval (.tmp t) = v := by simp [Act.eval, Array.getD_eq_getD_getElem?, h2]
        rw [this]
        exact VR.chg hchg _ _ h4 h3
      · rw [h1] at hp; simp at hp; subst hp
        have : a.eval (.tmp t) = undef := by simp [Act.eval, Array.getD_eq_getD_getElem?, h2]
        rw [this]; exact VR_undef _ _
    | const v => exact ofValue_VR hp _ _
    | global g => cases hp
    | func f =>
      simp only [evalO, Option.some.injEq] at hp
      subst hp
      simp [VR, Act.eval, LV]
  have hwe : Region.wanted o (yielded ops a.tmps) = wantedP o ops (T i) := wanted_eq (ρ := ρ) (w := w) fun j want t hg hd => by
    have htn : t ∈ namesOf ops.toList o := by
      unfold namesOf
      refine List.mem_append.2 (.inr ?_)
      rw [hg]
      simpa using hd
    rcases slot t htn with ⟨p, v, h1, h2, h3, _⟩ | h1
    · exact .inl ⟨p, v, h1, h2, h3⟩
    · exact .inr h1
  -- what comes behind it
  have behind : ∀ (val : Value) (w' : World) (ρ' : Rho), HRel ρ' (HH (i + 1)) w' → Ext R w ρ' w' → VR ρ' w' (V i) val → (∀ b, b < w.heap.size → w'.heap[b]? = w.heap[b]?) →
      (∀ d i o, getO (HH i) d i = some o → True) → K (a.put o.dst val) w' := by
    intro val w' ρ' q1 q2 q3 q4 _
    let S : Rho := ⟨fun d i' u => if inb (HH (i + 1)) d i' then ρ' d i' u else ρ d i' u, ρ.G, ρ.ex⟩
    have S_at : ∀ d i' u, S d i' u = if inb (HH (i + 1)) d i' then ρ' d i' u else ρ d i' u := fun _ _ _ => rfl
    have dom' : ∀ d i' u x, ρ' d i' u = some x → inb (HH (i + 1)) d i' = true := by
      intro d i' u x e
      obtain ⟨b, n⟩ := x
      obtain ⟨o1, ho1, _⟩ := q1.obj _ _ _ _ _ e
      exact Option.isSome_iff_exists.2 ⟨o1, ho1⟩
    have toI : ∀ d i' u x, ρ d i' u = some x → inb (HH (i + 1)) d i' = true → inb (HH i) d i' = true := by
      intro d i' u x e hin
      rcases hinv.dom _ _ _ _ e with h1 | ⟨t, h1, h2, h3⟩
      · exact hmono 0 i (by omega) (by omega) _ _ h1
      · have hth := hinv.hd t h1
        have hne' : t ≠ i := fun e => by rw [e, hun] at h1; cases h1
        rcases Nat.lt_or_ge t i with h4 | h4
        · exact hmono (t + 1) i (by omega) (by omega) _ _ h3
        · have := hmono (i + 1) t (by omega) (by omega) _ _ hin
          rw [this] at h2; cases h2
    have subS : ∀ d i' u x, ρ d i' u = some x → S d i' u = some x := by
      intro d i' u x e
      rw [S_at]
      cases hin : inb (HH (i + 1)) d i' with
      | true => simp only [if_true]; exact q2.sub _ _ _ _ (cutR_of e (toI _ _ _ _ e hin))
      | false => simpa using e
    have subS' : ∀ d i' u x, ρ' d i' u = some x → S d i' u = some x := by
      intro d i' u x e
      rw [S_at, dom' _ _ _ _ e]; simpa using e
    have fromS : ∀ d i' u x, S d i' u = some x → ρ' d i' u = some x ∨ (ρ d i' u = some x ∧ inb (HH (i + 1)) d i' = false) := by
      intro d i' u x e
      rw [S_at] at e
      cases hin : inb (HH (i + 1)) d i' with
      | true => rw [hin] at e; exact .inl (by simpa using e)
      | false => rw [hin] at e; exact .inr ⟨by simpa using e, rfl⟩
    have outG : ∀ d i' u b n, ρ d i' u = some (b, n) → inb (HH (i + 1)) d i' = false → ρ'.G b := by
      intro d i' u b n e hin
      rw [q2.res]
      refine .inr ⟨d, i', u, n, e, ?_⟩
      cases hin' : inb (HH i) d i' with
      | false => rfl
      | true => rw [hmono i (i + 1) (by omega) (by omega) _ _ hin'] at hin; cases hin
    have freshS : ∀ d i' u b n, S d i' u = some (b, n) → (∃ u' n', ρ d i' u' = some (b, n')) ∨ w.heap.size ≤ b := by
      intro d i' u b n e
      rcases fromS _ _ _ _ e with e | ⟨e, _⟩
      · rcases q2.fresh _ _ _ _ _ e with ⟨u', n', e'⟩ | e'
        · exact .inl ⟨u', n', (cutR_some e').1⟩
        · exact .inr e'
      · exact .inl ⟨u, n, e⟩
    have e0 : Ext0 ρ w S w' := by
      refine ⟨subS, q2.size, fun b hb => q4 b hb.1, freshS, ?_, q2.os, q2.tape, q2.output, rfl⟩
      rintro b cur ty fz ⟨d, i', u, n, e⟩ hc
      exact ⟨cur, (q4 b (hinv.heap.lt e)).trans hc, rfl⟩
    have hchg' : Chg ρ' S w' (fun _ _ => true) := by
      refine ⟨fun d i' u x e _ => subS' d i' u x e, fun b hb => ⟨hb.1, ?_, ?_⟩⟩
      · rintro ⟨d, i', u, n, e⟩
        rcases fromS _ _ _ _ e with e | ⟨e, hin⟩
        · exact hb.2.1 ⟨d, i', u, n, e⟩
        · exact hb.2.2 (outG _ _ _ _ _ e hin)
      · intro hg
        refine hb.2.2 ?_
        rw [q2.res]; exact .inl hg
    have allok : ∀ c : PV, rok (fun _ _ => true) c = true ∨ True := fun _ => .inr trivial
    have rokT : ∀ (c : PV) (v : Value), VR ρ' w' c v → rok (fun _ _ => true) c = true := fun c v hv => VR.rok (p := fun _ _ => true) (fun _ _ _ _ _ => rfl) c v hv
    have rokTC : ∀ (cs : List PV) (b o : Nat), CV ρ' w' cs b o → rokL (fun _ _ => true) cs = true := fun cs b o hv => CV.rok (p := fun _ _ => true) (fun _ _ _ _ _ => rfl) cs b o hv
    have rokD : ∀ d i' u x, ρ' d i' u = some x → inb (HH (i + 1)) d i' = true := dom'
    have vS : VR S w' (V i) val := VR.chg hchg' _ _ (rokT _ _ q3) q3
    have hlenT := T_len hT i (by omega)
    refine hK S w' (a.put o.dst val) ?_
    refine { size := by simp [hinv.size], hd := ?_, cl := ?_, heap := ?_, dom := ?_, cells := ?_, old := ?_, new := ?_, vok := ?_, len := ?_, df := by rw [put_defers]; exact hinv.df, ext := hinv.ext.trans e0, frm := ?_, nw := ?_ }
    · intro j hj
      by_cases e : j = i
      · omega
      · exact hinv.hd j (listed_set hj e)
    · intro j o' hj ho' d hd
      have hd' : l[d]? = some true := by
        by_cases e : j = i
        · subst e; rw [ho] at ho'; cases ho'; exact hdeps d hd
        · exact hinv.cl j o' (listed_set hj e) ho' d hd
      have hdi : d ≠ i := fun e => by rw [e, hun] at hd'; cases hd'
      rwa [Array.getElem?_setIfInBounds_ne (fun e => hdi e.symm)]
    · -- the heap
      refine { obj := ?_, block := ?_, cov := ?_, res := ?_, low := ?_, ex := ?_, inj := ?_ }
      · intro d i' u b n e
        rcases fromS _ _ _ _ e with e | ⟨e, _⟩
        · obtain ⟨o1, ho1, h1, h2, h3, h4, h5, h6⟩ := q1.obj _ _ _ _ _ e
          exact ⟨o1, hper (i + 1) h (by omega) (Nat.le_refl _) _ _ _ ho1, h1, h2, h3, fun hlo => CV.chg hchg' _ _ _ (rokTC _ _ _ (h4 hlo)) (h4 hlo), h5, h6⟩
        · obtain ⟨o1, ho1, h1, h2, h3, h4, h5, h6⟩ := hinv.heap.obj _ _ _ _ _ e
          exact ⟨o1, ho1, h1, h2, h3, fun hlo => CV.same0 e0 (fun j _ => cell_eq_of_block (q4 b (hinv.heap.lt e)) _) (h4 hlo), h5, h6⟩
      · intro d i' u b n e
        rcases fromS _ _ _ _ e with e | ⟨e, _⟩
        · exact q1.block _ _ _ _ _ e
        · obtain ⟨cur, ty, hc, hn⟩ := hinv.heap.block _ _ _ _ _ e
          exact ⟨cur, ty, (q4 b (hinv.heap.lt e)).trans hc, hn⟩
      · intro d i' u x o1 e ho1 u' hu'
        rcases fromS _ _ _ _ e with e | ⟨e, _⟩
        · obtain ⟨o2, ho2⟩ := Option.isSome_iff_exists.1 (dom' _ _ _ _ e)
          have := hper (i + 1) h (by omega) (Nat.le_refl _) _ _ _ ho2
          rw [ho1] at this; cases this
          obtain ⟨y, hy⟩ := q1.cov _ _ _ _ _ e ho2 u' hu'
          exact ⟨y, subS' _ _ _ _ hy⟩
        · obtain ⟨y, hy⟩ := hinv.heap.cov _ _ _ _ _ e ho1 u' hu'
          exact ⟨y, subS _ _ _ _ hy⟩
      · intro d i' u b n e hg
        rcases fromS _ _ _ _ e with e | ⟨e, _⟩
        · refine q1.res _ _ _ _ _ e ?_
          rw [q2.res]; exact .inl hg
        · exact hinv.heap.res _ _ _ _ _ e hg
      · intro b hg
        exact Nat.lt_of_lt_of_le (hinv.heap.low b hg) q2.size
      · exact hinv.heap.ex
      · intro d i' u b n d' i'' u' n' e e'
        rcases fromS _ _ _ _ e with e | ⟨e, hin⟩ <;> rcases fromS _ _ _ _ e' with e' | ⟨e', hin'⟩
        · exact q1.inj _ _ _ _ _ _ _ _ _ e e'
        · exact absurd (outG _ _ _ _ _ e' hin') (q1.res _ _ _ _ _ e)
        · exact absurd (outG _ _ _ _ _ e hin) (q1.res _ _ _ _ _ e')
        · exact hinv.heap.inj _ _ _ _ _ _ _ _ _ e e'
    · intro d i' u x e
      have keepdom : ∀ u' y, ρ d i' u' = some y → inb (HH 0) d i' = true ∨ ∃ t : Nat, (l.setIfInBounds i true)[t]? = some true ∧ inb (HH t) d i' = false ∧ inb (HH (t + 1)) d i' = true := by
        intro u' y e
        rcases hinv.dom _ _ _ _ e with h1 | ⟨t, h1, h2, h3⟩
        · exact .inl h1
        · refine .inr ⟨t, ?_, h2, h3⟩
          have hne' : t ≠ i := fun e => by rw [e, hun] at h1; cases h1
          rwa [Array.getElem?_setIfInBounds_ne (fun e => hne' e.symm)]
      rcases fromS _ _ _ _ e with e | ⟨e, _⟩
      · rcases q2.newo _ _ _ _ e with ⟨u', y, e'⟩ | e'
        · exact keepdom _ _ (cutR_some e').1
        · refine .inr ⟨i, ?_, ?_, dom' _ _ _ _ e⟩
          · have hil : i < l.size := by rw [hinv.size]; omega
            simp [hil]
          · cases hin : inb (HH i) d i' with
            | false => rfl
            | true => exact absurd ((hRel.ex d i').2 hin) e'
      · exact keepdom _ _ e
    · intro d i' u x j o1 e hj ho1
      rcases fromS _ _ _ _ e with e | ⟨e, _⟩
      · rcases q2.newo _ _ _ _ e with ⟨u', y, e'⟩ | e'
        · exact hinv.cells _ _ _ _ j o1 (cutR_some e').1 hj ho1
        · have hin0 : inb (HH i) d i' = false := by
            cases hin : inb (HH i) d i' with
            | false => rfl
            | true => exact absurd ((hRel.ex d i').2 hin) e'
          have hji : i + 1 ≤ j := by
            rcases Nat.lt_or_ge i j with h1 | h1
            · exact h1
            · have := hmono j i h1 (by omega) d i' (Option.isSome_iff_exists.2 ⟨o1, ho1⟩)
              rw [this] at hin0; cases hin0
          obtain ⟨b, n⟩ := x
          obtain ⟨o2, ho2, h1, h2, h3, h4, h5, h6⟩ := q1.obj _ _ _ _ _ e
          have := hper (i + 1) j hji hj _ _ _ ho2
          rw [ho1] at this; cases this
          obtain ⟨⟨b', n'⟩, hy⟩ := q1.cov _ _ _ _ _ e ho2 o1.ver (Nat.le_refl _)
          obtain ⟨o3, ho3, g1, g2, g3, g4, g5, g6⟩ := q1.obj _ _ _ _ _ hy
          rw [ho2] at ho3; cases ho3
          have hcv := g4 g6
          rw [g3 rfl, List.take_length] at hcv
          exact rokL_mono (hmono (i + 1) j hji hj) _ (CV.rok dom' _ _ _ hcv)
      · exact hinv.cells _ _ _ _ j o1 e hj ho1
    · intro t hn
      have hdt : o.dst ≠ some t := by
        have hil : i < l.size := by rw [hinv.size]; omega
        exact hn i o (by simp [hil]) ho
      have hput : (a.put o.dst val).tmps[t]? = a.tmps[t]? := by
        cases hd : o.dst with
        | none => rfl
        | some d =>
          rw [hd] at hdt
          simp only [Act.put]
          rw [Array.getElem?_setIfInBounds_ne (fun e => hdt (by rw [e]))]
      rw [hput]
      have := hinv.old t fun i' o' h1 h2 => by
        have hne' : i' ≠ i := fun e => by rw [e, hun] at h1; cases h1
        exact hn i' o' (by rwa [Array.getElem?_setIfInBounds_ne (fun e => hne' e.symm)]) h2
      rcases this with ⟨p, v, h1, h2, h3⟩ | h1
      · exact .inl ⟨p, v, h1, h2, VR.ext0 e0 _ _ h3⟩
      · exact .inr h1
    · intro i' o' t h1 h2 h3 h4
      by_cases e : i' = i
      · subst e
        rw [ho] at h2; cases h2
        refine ⟨val, ?_, vS⟩
        rw [h3]
        simp only [Act.put]
        rw [Array.getElem?_setIfInBounds_self_of_lt (by rw [hinv.len]; exact h4)]
      · obtain ⟨v, h5, h6⟩ := hinv.new i' o' t (listed_set h1 e) h2 h3 h4
        refine ⟨v, ?_, VR.ext0 e0 _ _ h6⟩
        cases hd : o.dst with
        | none => simpa [Act.put] using h5
        | some d =>
          simp only [Act.put]
          have : d ≠ t := fun e' => e (huniq i' i o' o t h2 ho h3 (by rw [hd, e']))
          rw [Array.getElem?_setIfInBounds_ne this]; exact h5
    · intro i' h1
      by_cases e : i' = i
      · subst e; exact VR.rok dom' _ _ q3
      · exact hinv.vok i' (listed_set h1 e)
    · cases hd : o.dst with
      | none => simpa [Act.put] using hinv.len
      | some d => simpa [Act.put] using hinv.len
    · intro b hb
      exact (q4 b (Nat.lt_of_lt_of_le hb hinv.ext.size)).trans (hinv.frm b hb)
    · intro d i' u x e
      rcases fromS _ _ _ _ e with e | ⟨e, _⟩
      · rcases q2.newo _ _ _ _ e with ⟨u', y, e'⟩ | e'
        · exact hinv.nw _ _ _ _ (cutR_some e').1
        · refine .inr ?_
          cases hin : inb (HH 0) d i' with
          | false => rfl
          | true => exact absurd ((hRel.ex d i').2 (hmono 0 i (by omega) (by omega) _ _ hin)) e'
      · exact hinv.nw _ _ _ _ e
  unfold wpOp
  rw [ho]
  simp only
  rw [hwe]
  obtain ⟨o2, ho2, _, hst⟩ := htr i hi
  rw [ho] at ho2; cases ho2
  rcases hst with ⟨hw, hv, hH⟩ | ⟨hw, k', hk', hst⟩
  · rw [hw]
    simp only [Bool.false_eq_true, if_false]
    refine behind undef w R (by rw [hH]; exact hRel) (.refl _ _) (by rw [hv]; exact VR_undef _ _) (fun _ _ => rfl) (fun _ _ _ _ => trivial)
  · rw [hw]
    simp only [if_true]
    refine .inl (one_sound horc (hcs k' hk') hst hRel (hne i (by omega)) hev fun val w' ρ' h1 h2 h3 h4 => behind val w' ρ' h1 h2 h3 (fun b hb => ?_) (fun _ _ _ _ => trivial))
    rcases h4 b hb with h5 | ⟨_, _, _, _, _, h5⟩
    · exact h5
    · simp at h5

end

end Go.Proofs.YtbcmiddffckgmaaDoor.Am
