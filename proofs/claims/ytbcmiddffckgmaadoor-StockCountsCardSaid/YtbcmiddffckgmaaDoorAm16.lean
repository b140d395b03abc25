/- The abstract machine's run is the machine's: the theorem. -/
import Derived.Test.YtbcmiddffckgmaaDoorAm15
set_option linter.unusedVariables false
set_option linter.unusedSimpArgs false
set_option linter.unnecessarySimpa false
namespace Go.Proofs.YtbcmiddffckgmaaDoor.Am
open Go Go.RowKit

theorem Ext.drawn (ρ : Rho) (w : World) (n : Nat) : Ext ρ w ρ { w with drawn := n } :=
  ⟨⟨fun _ _ _ _ h => h, Nat.le_refl _, fun _ _ => rfl, fun d i u b n h => .inl ⟨u, n, h⟩, fun b cur ty fz _ h => ⟨cur, h, rfl⟩, rfl, rfl, rfl, rfl⟩, fun _ _ h => h, fun d i u x h => .inl ⟨u, x, h⟩⟩

theorem HRel.drawn {ρ : Rho} {H : Heap} {w : World} (h : HRel ρ H w) (n : Nat) : HRel ρ H { w with drawn := n } := by
  refine { obj := ?_, block := h.block, cov := h.cov, res := h.res, low := h.low, ex := h.ex, inj := h.inj }
  intro d i u b m e
  obtain ⟨o, h1, h2, h3, h4, h5, h6⟩ := h.obj _ _ _ _ _ e
  exact ⟨o, h1, h2, h3, h4, fun hlo => CV.same (Ext.drawn ρ w n) (fun _ _ => rfl) (h5 hlo), h6⟩

theorem Rel.drawn {ρ : Rho} {w : World} {st : St} {a : Act} (h : Rel ρ w st a) (n : Nat) : Rel ρ { w with drawn := n } st a :=
  ⟨h.heap.drawn n, h.ne, LV.ext (Ext.drawn ρ w n) _ _ h.ts, h.df⟩

theorem draw_sound0 {C : Cfg} (horc : OrcOk C) {k : Nat} (hcs : ∀ j, j < k → CallS C j) (m id : Nat) (ops : Array Oper) (st st' : St)
    (hok : drawOk ops.toList (befs ops.toList) = true) (hx : runOps C k m (headLen (befs ops.toList)) ops (List.range ops.size) st = some st') (ρ : Rho) (w : World) (a : Act) (hrel : Rel ρ w st a)
    (Q : Exit → Act → World → Prop) (hQ : ∀ ρ' w' a', Rel ρ' w' st' a' → Ext ρ w ρ' w' → Frs (curD st.H) m ρ w st'.wr w' → Q .normal a' w') :
    wpAny C.P .any ops Q ops.size (Array.replicate ops.size false) a { w with drawn := w.drawn + 1 } := by
  have hhle : headLen (befs ops.toList) ≤ ops.size := by have := headLen_le (befs ops.toList); rw [befs_length] at this; simpa using this
  have hx' : runOps C k m (headLen (befs ops.toList)) ops (List.range' 0 (ops.size - 0)) st = some st' := by
    rw [Nat.sub_zero, ← List.range_eq_range']; exact hx
  obtain ⟨T, HH, V, kk, h1, h2, h3, h4, h5⟩ := head_trace (headLen (befs ops.toList)) 0 k st st' (by omega) hhle hx'
  have htr := fun j hj => h3 j (Nat.zero_le _) hj
  have hstep : ∀ j, j < headLen (befs ops.toList) → (HH (j + 1)).length = (HH j).length ∧ ∀ d i o, getO (HH j) d i = some o → getO (HH (j + 1)) d i = some o := by
    intro j hj
    obtain ⟨o, _, _, hs⟩ := htr j hj
    rcases hs with ⟨_, _, e⟩ | ⟨_, k', _, e⟩
    · rw [e]; exact ⟨rfl, fun _ _ _ h => h⟩
    · unfold stepP at e
      split at e
      · exact ⟨(facts C k').call _ _ _ _ _ _ e, fun d i o' ho => (keeps C k').call _ _ _ _ _ _ e d i o' ho (by simp)⟩
      · exact ⟨opP_length e, fun d i o' ho => (opP_hop e).keep ho (by simp)⟩
  have hlen : ∀ j, j ≤ headLen (befs ops.toList) → (HH j).length = st.H.length := by
    intro j
    induction j with
    | zero => intro _; rw [h2]
    | succ j ih => intro hj; rw [(hstep j (by omega)).1]; exact ih (by omega)
  have hper : ∀ j j', j ≤ j' → j' ≤ headLen (befs ops.toList) → ∀ d i o, getO (HH j) d i = some o → getO (HH j') d i = some o := by
    intro j j' hjj
    induction hjj with
    | refl => intro _ d i o h; exact h
    | step hle ih => intro hj d i o h; exact (hstep _ (by omega)).2 d i o (ih (by omega) d i o h)
  have hd0 : ∀ d i u x, ρ d i u = some x → inb st.H d i = true := by
    intro d i u x e
    obtain ⟨b, n⟩ := x
    obtain ⟨o, ho, _⟩ := hrel.heap.obj _ _ _ _ _ e
    exact Option.isSome_iff_exists.2 ⟨o, ho⟩
  refine (head_any horc hcs hok h1 h2 htr h4 h5 (fun j hj => ne_of_len (hlen j hj) hrel.ne) hlen hper ?_ hrel.heap (Q := Q) hQ ops.size _ ⟨ρ.at_, ρ.G, fun d i => inb (HH (headLen (befs ops.toList))) d i = true⟩ _ a ?_ ?_)
  · intro t p hp
    rw [h1] at hp
    obtain ⟨v, hv, hvr⟩ := LV_get _ _ hrel.ts _ _ hp
    rw [h2]
    exact VR.rok hd0 _ _ hvr
  · unfold cntF
    have := List.countP_le_length (p := fun b : Bool => !b) (l := (Array.replicate ops.size false).toList)
    simpa using this
  · have hno : ∀ (j : Nat), (Array.replicate ops.size false)[j]? ≠ some true := by
      intro j h
      rw [Array.getElem?_replicate] at h
      split at h <;> cases h
    have hrelD := hrel.drawn (w.drawn + 1)
    let ρ1 : Rho := ⟨ρ.at_, ρ.G, fun d i => inb (HH (headLen (befs ops.toList))) d i = true⟩
    have hchg : Chg ρ ρ1 { w with drawn := w.drawn + 1 } (fun _ _ => true) := ⟨fun _ _ _ _ h _ => h, fun _ h => h⟩
    have hext0 : Ext0 ρ w ρ1 { w with drawn := w.drawn + 1 } := ⟨fun _ _ _ _ h => h, Nat.le_refl _, fun _ _ => rfl, fun d i u b n h => .inl ⟨u, n, h⟩, fun b cur ty fz _ h => ⟨cur, h, rfl⟩, rfl, rfl, rfl, rfl⟩
    have htrue : ∀ (c : PV) (v : Value), VR ρ { w with drawn := w.drawn + 1 } c v → VR ρ1 { w with drawn := w.drawn + 1 } c v := fun c v hv => VR.chg hchg _ _ (VR.rok (p := fun _ _ => true) (fun _ _ _ _ _ => rfl) _ _ hv) hv
    refine { size := by simp, hd := fun j h => absurd h (hno j), cl := fun j o h => absurd h (hno j), heap := ?_, dom := ?_, cells := ?_, old := ?_, new := fun i o t h => absurd h (hno i), vok := fun i h => absurd h (hno i), len := ?_, df := hrel.df, ext := hext0, frm := fun _ _ => rfl, nw := fun d i u x e => .inl ⟨u, x, e⟩ }
    · -- the heap at the head's end, of which only the old objects are told
      have hh := hrelD.heap
      have hp0 : ∀ d i o, getO st.H d i = some o → getO (HH (headLen (befs ops.toList))) d i = some o := fun d i o ho => hper 0 _ (Nat.zero_le _) (Nat.le_refl _) d i o (by rw [h2]; exact ho)
      refine { obj := ?_, block := hh.block, cov := ?_, res := hh.res, low := hh.low, ex := fun d i => Iff.rfl, inj := hh.inj }
      · intro d i u b n e
        obtain ⟨o, g1, g2, g3, g4, g5, g6⟩ := hh.obj _ _ _ _ _ e
        exact ⟨o, hp0 _ _ _ g1, g2, g3, g4, fun hlo => CV.chg hchg _ _ _ (CV.rok (p := fun _ _ => true) (fun _ _ _ _ _ => rfl) _ _ _ (g5 hlo)) (g5 hlo), g6⟩
      · intro d i u x o e ho u' hu'
        obtain ⟨o0, ho0⟩ := Option.isSome_iff_exists.1 (hd0 _ _ _ _ e)
        have := hp0 _ _ _ ho0
        rw [ho] at this; cases this
        exact hh.cov _ _ _ _ _ e ho0 u' hu'
    · intro d i u x e
      exact .inl (by rw [h2]; exact hd0 _ _ _ _ e)
    · intro d i u x j o e hj ho
      have h6 := hd0 _ _ _ _ e
      obtain ⟨o0, ho0⟩ := Option.isSome_iff_exists.1 h6
      have := hper 0 j (Nat.zero_le _) hj d i o0 (by rw [h2]; exact ho0)
      rw [ho] at this; cases this
      obtain ⟨⟨b', n'⟩, hy⟩ := hrel.heap.cov _ _ _ _ _ e ho0 o.ver (Nat.le_refl _)
      obtain ⟨o3, ho3, g1, g2, g3, g4, g5, g6⟩ := hrel.heap.obj _ _ _ _ _ hy
      rw [ho0] at ho3; cases ho3
      have hcv := g4 g6
      rw [g3 rfl, List.take_length] at hcv
      refine rokL_mono (fun d i hh => ?_) _ (CV.rok hd0 _ _ _ hcv)
      obtain ⟨o4, ho4⟩ := Option.isSome_iff_exists.1 hh
      exact Option.isSome_iff_exists.2 ⟨o4, hper 0 j (Nat.zero_le _) hj d i o4 (by rw [h2]; exact ho4)⟩
    · intro t _
      rw [h1]
      rcases guard_rel hrelD.ts t with ⟨p, v, g1, g2, g3⟩ | h
      · exact .inl ⟨p, v, g1, g2, htrue _ _ g3⟩
      · exact .inr h
    · rw [h1]
      have := LV_length _ _ hrel.ts
      simpa using this.symm

/-! ### Operations that only move slots, at a region's beginning -/
def edgeOp (q j : Nat) (o : Oper) : Oper := if j < q then o else { o with after := o.after ++ edges q }
theorem edged_get (ops : Array Oper) (j : Nat) : (edged ops)[j]? = (ops[j]?).map (edgeOp (slotN ops) j) := by
  unfold edged edgeOp
  simp only [List.getElem?_toArray, List.getElem?_map, List.getElem?_zipIdx, Array.getElem?_toList]
  cases ops[j]? <;> simp
theorem edged_size (ops : Array Oper) : (edged ops).size = ops.size := by
  unfold edged; simp
theorem edgeOp_eq (q j : Nat) (o : Oper) : ∃ af, edgeOp q j o = { o with after := af } := by
  unfold edgeOp; split
  · exact ⟨o.after, rfl⟩
  · exact ⟨_, rfl⟩
theorem edged_dst (ops : Array Oper) (j : Nat) : ((edged ops)[j]?).bind (·.dst) = (ops[j]?).bind (·.dst) := by
  rw [edged_get]
  cases ops[j]? with
  | none => rfl
  | some o => obtain ⟨af, h⟩ := edgeOp_eq (slotN ops) j o; simp [h]
theorem runOps_edged {C : Cfg} {m h : Nat} {ops : Array Oper} : ∀ (k : Nat) (todo : List Nat) (st : St), runOps C k m h (edged ops) todo st = runOps C k m h ops todo st
  | 0, _, _ => by simp [runOps]
  | k + 1, [], _ => by simp [runOps]
  | k + 1, i :: rest, st => by
    simp only [runOps]
    rw [edged_get]
    cases ops[i]? with
    | none => rfl
    | some o =>
      obtain ⟨af, he⟩ := edgeOp_eq (slotN ops) i o
      simp only [Option.map_some, he]
      have hw : wantedP { o with after := af } (edged ops) st.ts = wantedP o ops st.ts := by
        unfold wantedP
        simp only []
        cases o.guard with
        | none => rfl
        | some g => obtain ⟨j, want⟩ := g; simp only [edged_dst]
      simp only [hw, runOps_edged k]
theorem yielded_edged (ops : Array Oper) (tmps : Array Value) : yielded (edged ops) tmps = yielded ops tmps := by
  funext g
  unfold yielded
  simp only [edged_dst]
theorem execOp_after (ρ : Operand → Value) (o : Oper) (af : Array Edge) : execOp ρ { o with after := af } = execOp ρ o := by
  obtain ⟨dst, op, type, pos, after, guard⟩ := o
  cases op <;> rfl
theorem wpOp_edged {P : Program} {ops : Array Oper} {Q : Exit → Act → World → Prop} {i : Nat} {K : Act → World → Prop} {a : Act} {w : World} : wpOp P (edged ops) Q i K a w = wpOp P ops Q i K a w := by
  unfold wpOp
  rw [edged_get]
  cases ops[i]? with
  | none => rfl
  | some o =>
    obtain ⟨af, he⟩ := edgeOp_eq (slotN ops) i o
    have h1 : ∀ y, Region.wanted { o with after := af } y = Region.wanted o y := fun y => rfl
    have h2 : ({ o with after := af } : Oper).wp P a w K Q = o.wp P a w K Q := by
      unfold Oper.wp
      rw [execOp_after]
      rfl
    have h3 : ({ o with after := af } : Oper).asks P a w = o.asks P a w := by
      unfold Oper.asks
      rw [execOp_after]
    simp only [Option.map_some, he, yielded_edged, h1, h2, h3]
theorem pl_get (n i j : Nat) : (pl n i)[j]? = if j < n then some (decide (j < i)) else none := by
  unfold pl
  simp only [List.getElem?_toArray, List.getElem?_map]
  by_cases h : j < n
  · rw [if_pos h, List.getElem?_range h]; rfl
  · rw [if_neg h, List.getElem?_eq_none (by simpa using h)]; rfl
theorem pl_zero (n : Nat) : pl n 0 = Array.replicate n false := by
  apply Array.ext_getElem?
  intro j
  rw [pl_get, Array.getElem?_replicate]
  simp
theorem pl_set (n i : Nat) : (pl n i).setIfInBounds i true = pl n (i + 1) := by
  apply Array.ext_getElem?
  intro j
  rw [pl_get, Array.getElem?_setIfInBounds]
  have hs : (pl n i).size = n := by simp [pl]
  rw [hs, pl_get]
  by_cases h : i = j
  · subst h
    by_cases h' : i < n <;> simp [h']
  · rw [if_neg h]
    by_cases h' : j < n
    · simp only [h', if_true, Option.some.injEq, decide_eq_decide]; omega
    · simp [h']
theorem slotN_spec {ops : Array Oper} {i : Nat} (h : i < slotN ops) : Region.noSelect ops = true ∧ Region.free .any ops (pl ops.size i) i = true ∧ (Region.ready .any ops (pl ops.size i)).contains i = true ∧
    ∃ o, ops[i]? = some o ∧ slotOp o = true := by
  unfold slotN at h
  simp only [] at h
  split at h
  · rename_i hc
    have h2 := List.all_eq_true.1 hc.2 i (by simpa using h)
    rw [Bool.and_eq_true] at h2
    obtain ⟨o, ho, hp⟩ := takeWhile_get h
    exact ⟨hc.1, h2.1, h2.2, o, by simpa using ho, hp⟩
  · omega
theorem slotN_le (ops : Array Oper) : slotN ops ≤ ops.size := by
  unfold slotN
  simp only []
  split
  · have := (List.takeWhile_prefix (p := slotOp) (l := ops.toList)).length_le
    simpa using this
  · omega
theorem slotOp_run {o : Oper} (h : slotOp o = true) {P : Program} {ops : Array Oper} (a : Act) : ∃ v, Yields P ops o v a := by
  obtain ⟨dst, op, type, pos, after, guard⟩ := o
  unfold slotOp at h
  simp only [Bool.and_eq_true, Option.isNone_iff_eq_none] at h
  obtain ⟨rfl, h⟩ := h
  cases op <;> simp only [] at h <;> try (cases h; done)
  · exact ⟨_, .inl ⟨rfl, fun w => rfl⟩⟩
  · exact ⟨_, .inl ⟨rfl, fun w => rfl⟩⟩
theorem Yields.wpOp_inv {P : Program} {ops : Array Oper} {Q : Exit → Act → World → Prop} {i : Nat} {o : Oper} {v : Value} {a : Act} (hi : ops[i]? = some o) (hy : Yields P ops o v a) (hQ : ∀ a w, ¬ Q .outgrown a w)
    {K : Act → World → Prop} {w : World} (h : wpOp P ops Q i K a w) : K (a.put o.dst v) w := by
  unfold Go.wpOp at h
  simp only [hi] at h
  rcases hy with ⟨hw, hv⟩ | ⟨hw, rfl⟩
  · simp only [hw, if_true, Oper.wp, hv w, Oper.upon] at h
    rcases h with h | ⟨_, a', w', h⟩
    · exact h
    · exact absurd h (hQ a' w')
  · simp only [hw, Bool.false_eq_true, if_false] at h; exact h
theorem ready_edged {ops : Array Oper} {l : Array Bool} (hl : l.size = ops.size) (h : ∀ i, i < slotN ops → l[i]? = some true) (i : Nat) : i ∈ Region.ready .any (edged ops) l ↔ i ∈ Region.ready .any ops l := by
  rw [Go.mem_ready, Go.mem_ready, edged_get]
  refine and_congr_right fun _ => ?_
  cases ops[i]? with
  | none => simp
  | some o =>
    simp only [Option.map_some, Option.some.injEq, exists_eq_left']
    unfold edgeOp
    split
    · rfl
    · simp only [Array.mem_append]
      constructor
      · intro hh e he hb; exact hh e (.inl he) hb
      · rintro hh e (he | he) hb
        · exact hh e he hb
        · unfold edges at he
          simp only [List.mem_toArray, List.mem_map, List.mem_range] at he
          obtain ⟨j, hj, rfl⟩ := he
          rw [Array.getD_eq_getD_getElem?, h j hj]; rfl
theorem any_edged {P : Program} {ops : Array Oper} {Q : Exit → Act → World → Prop} : ∀ (fuel : Nat) (l : Array Bool) (a : Act) (w : World), l.size = ops.size → (∀ i, i < slotN ops → l[i]? = some true) →
    wpAny P .any (edged ops) Q fuel l a w → wpAny P .any ops Q fuel l a w := by
  intro fuel
  induction fuel with
  | zero =>
    rintro l a w hl h ⟨h1, h2⟩
    refine ⟨?_, h2⟩
    rw [List.eq_nil_iff_forall_not_mem] at h1 ⊢
    exact fun i hi => h1 i ((ready_edged hl h i).2 hi)
  | succ fuel ih =>
    rintro l a w hl h ⟨h1, h2⟩
    refine ⟨fun h0 => h1 ?_, fun i hi => ?_⟩
    · rw [List.eq_nil_iff_forall_not_mem] at h0 ⊢
      exact fun i hi => h0 i ((ready_edged hl h i).1 hi)
    · have := h2 i ((ready_edged hl h i).2 hi)
      rw [wpOp_edged] at this
      refine wpOp_mono (fun a' w' h3 => ih _ a' w' (by simpa using hl) (fun j hj => ?_) h3) this
      rw [Array.getElem?_setIfInBounds]
      have := h j hj
      split
      · rename_i e; subst e
        have hlt := (Array.getElem?_eq_some_iff.1 this).1
        simp [hlt]
      · exact this
theorem slots_first {P : Program} {ops : Array Oper} {Q : Exit → Act → World → Prop} (hQ : ∀ e a w, Q e a w → e = .normal) : ∀ (c i : Nat) (a : Act) (w : World), i + c = slotN ops →
    wpAny P .any (edged ops) Q (ops.size - i) (pl ops.size i) a w → wpAny P .any ops Q (ops.size - i) (pl ops.size i) a w := by
  intro c
  induction c with
  | zero =>
    intro i a w hi h
    refine any_edged _ _ a w (by simp [pl]) (fun j hj => ?_) h
    rw [pl_get, if_pos (by have := slotN_le ops; omega)]
    simp; omega
  | succ c ih =>
    intro i a w hi h
    have hlt : i < slotN ops := by omega
    obtain ⟨hs, hf, hr, o, ho, hso⟩ := slotN_spec hlt
    obtain ⟨v, hy⟩ := slotOp_run hso (P := P) (ops := ops) a
    have hsz : ops.size - i = (ops.size - (i + 1)) + 1 := by have := slotN_le ops; omega
    have hre : i ∈ Region.ready .any (edged ops) (pl ops.size i) := by
      have hr' : i ∈ Region.ready .any ops (pl ops.size i) := by simpa using hr
      rw [Go.mem_ready] at hr' ⊢
      refine ⟨hr'.1, ?_⟩
      obtain ⟨_, o', ho', h2⟩ := hr'
      refine ⟨o', ?_, h2⟩
      rw [edged_get, ho', Option.map_some, edgeOp, if_pos hlt]
    rw [hsz] at h ⊢
    have h1 := h.2 i hre
    rw [wpOp_edged, pl_set] at h1
    have h2 := Yields.wpOp_inv ho hy (fun a w hq => by have := hQ _ _ _ hq; cases this) h1
    refine wpAny_take ho hs hf hr (fun c a w hq => by have := hQ _ _ _ hq; cases this) hy ?_
    rw [pl_set]
    exact ih (i + 1) _ w (by omega) h2

/-! ### The same operations, of which some wait for more -/
def SameOps (ops E : Array Oper) : Prop := ∀ j : Nat, ∃ af, E[j]? = (ops[j]?).map fun o => { o with after := af }
section
variable {ops E : Array Oper} (hE : SameOps ops E)
include hE
theorem same_dst (j : Nat) : (E[j]?).bind (·.dst) = (ops[j]?).bind (·.dst) := by
  obtain ⟨af, h⟩ := hE j
  rw [h]
  cases ops[j]? <;> rfl
theorem runOps_same {C : Cfg} {m h : Nat} : ∀ (k : Nat) (todo : List Nat) (st : St), runOps C k m h E todo st = runOps C k m h ops todo st
  | 0, _, _ => by simp [runOps]
  | k + 1, [], _ => by simp [runOps]
  | k + 1, i :: rest, st => by
    simp only [runOps]
    obtain ⟨af, he⟩ := hE i
    rw [he]
    cases ops[i]? with
    | none => rfl
    | some o =>
      simp only [Option.map_some]
      have hw : wantedP { o with after := af } E st.ts = wantedP o ops st.ts := by
        unfold wantedP
        simp only []
        cases o.guard with
        | none => rfl
        | some g => obtain ⟨j, want⟩ := g; simp only [same_dst hE]
      simp only [hw, runOps_same k]
theorem yielded_same (tmps : Array Value) : yielded E tmps = yielded ops tmps := by
  funext g
  unfold yielded
  simp only [same_dst hE]
theorem wpOp_same {P : Program} {Q : Exit → Act → World → Prop} {i : Nat} {K : Act → World → Prop} {a : Act} {w : World} : wpOp P E Q i K a w = wpOp P ops Q i K a w := by
  unfold wpOp
  obtain ⟨af, he⟩ := hE i
  rw [he]
  cases ops[i]? with
  | none => rfl
  | some o =>
    have h1 : ∀ y, Region.wanted { o with after := af } y = Region.wanted o y := fun y => rfl
    have h2 : ({ o with after := af } : Oper).wp P a w K Q = o.wp P a w K Q := by
      unfold Oper.wp
      rw [execOp_after]
      rfl
    have h3 : ({ o with after := af } : Oper).asks P a w = o.asks P a w := by
      unfold Oper.asks
      rw [execOp_after]
    simp only [Option.map_some, yielded_same hE, h1, h2, h3]
end
def edgesOf (l : List Nat) : Array Edge := (l.map fun i => ({ on := i, ground := .data } : Edge)).toArray
def lateOf (ops : Array Oper) (j : Nat) : List Nat := late ops ((List.range ops.size).filter (earlyB ops)) (befs ops.toList) j
theorem edged2_get {ops : Array Oper} (hs : Region.noSelect ops = true) (j : Nat) : (edged2 ops)[j]? = (ops[j]?).map fun o => { o with after := o.after ++ edgesOf (lateOf ops j) } := by
  unfold edged2
  rw [if_pos hs]
  simp only [List.getElem?_toArray, List.getElem?_map, List.getElem?_zipIdx, Array.getElem?_toList]
  cases ops[j]? with
  | none => rfl
  | some o => simp [edgesOf, lateOf]
theorem edged2_size (ops : Array Oper) : (edged2 ops).size = ops.size := by
  unfold edged2; split <;> simp
theorem edged2_same (ops : Array Oper) : SameOps ops (edged2 ops) := by
  intro j
  by_cases hs : Region.noSelect ops = true
  · rw [edged2_get hs]
    cases ops[j]? with
    | none => exact ⟨#[], rfl⟩
    | some o => exact ⟨_, rfl⟩
  · unfold edged2
    rw [if_neg hs]
    cases ops[j]? with
    | none => exact ⟨#[], rfl⟩
    | some o => exact ⟨o.after, rfl⟩
theorem deps_edges (o : Oper) (l : List Nat) : deps { o with after := o.after ++ edgesOf l } = deps o ++ l := by
  unfold deps edgesOf
  simp only [Array.toList_append, List.filterMap_append]
  congr 1
  rw [List.filterMap_map]
  have : ((fun e : Edge => if Region.binds .any e = true then some e.on else none) ∘ fun i => ({ on := i, ground := .data } : Edge)) = some := by funext i; rfl
  rw [this, List.filterMap_some]
theorem slot2_inv {P : Program} {ops : Array Oper} {Q : Exit → Act → World → Prop} {i : Nat} {o : Oper} (hs : slot2 o = true) (hi : ops[i]? = some o) (hQ : ∀ a w, ¬ Q .outgrown a w) {K : Act → World → Prop} {a : Act} {w : World}
    (h : wpOp P ops Q i K a w) : ∃ v, Yields P ops o v a ∧ K (a.put o.dst v) w := by
  by_cases h1 : slotOp o = true
  · obtain ⟨v, hy⟩ := slotOp_run h1 (P := P) (ops := ops) a
    exact ⟨v, hy, Yields.wpOp_inv hi hy hQ h⟩
  · obtain ⟨dst, op, type, pos, after, guard⟩ := o
    unfold slot2 at hs
    simp only [Bool.and_eq_true, Option.isNone_iff_eq_none] at hs
    obtain ⟨rfl, hs⟩ := hs
    cases op <;> simp only [] at hs <;> try (first | (cases hs; done) | (exact absurd rfl h1))
    rename_i t ix
    have hy : ∀ v, (∀ w, (execOp a.eval ⟨dst, .extract t ix, type, pos, after, none⟩).run P w = .ok (.value v) w) → ∃ v, Yields P ops ⟨dst, .extract t ix, type, pos, after, none⟩ v a ∧ K (a.put dst v) w := fun v hv => by
      have hyy : Yields P ops ⟨dst, .extract t ix, type, pos, after, none⟩ v a := .inl ⟨rfl, hv⟩
      exact ⟨v, hyy, Yields.wpOp_inv hi hyy hQ h⟩
    have hno : (∀ w, ∃ e, (execOp a.eval ⟨dst, .extract t ix, type, pos, after, none⟩).run P w = .halt (.stuck e) w) → False := fun hst => by
      unfold Go.wpOp at h
      simp only [hi] at h
      rw [if_pos (show Region.wanted (⟨dst, .extract t ix, type, pos, after, none⟩ : Oper) (yielded ops a.tmps) = true from rfl)] at h
      rcases h with h | ⟨_, a', w', h⟩
      · obtain ⟨e, he⟩ := hst w
        unfold Oper.wp at h
        rw [he] at h
        exact h
      · exact hQ a' w' h
    cases hv : a.eval t with
    | tuple vs =>
      cases hx : vs[ix]? with
      | some v => exact hy v fun w => by simp only [execOp, hv, Instr.extract, hx]; rfl
      | none => exact (hno fun w => ⟨_, by simp only [execOp, hv, Instr.extract, hx]; rfl⟩).elim
    | _ => exact (hno fun w => ⟨_, by simp only [execOp, hv, Instr.extract]; rfl⟩).elim
theorem early_first {P : Program} {E : Array Oper} {Q : Exit → Act → World → Prop} (hQ : ∀ e a w, Q e a w → e = .normal) : ∀ (fuel : Nat) (l : Array Bool) (a : Act) (w : World), l.size = E.size →
    (∀ (j : Nat) (o : Oper), l[j]? = some true → E[j]? = some o → ∀ d ∈ deps o, l[d]? = some true) →
    wpAny P .any (edged2 E) Q fuel l a w → wpAny P .any E Q fuel l a w := by
  by_cases hs : Region.noSelect E = true
  case neg =>
    intro fuel l a w _ _ h
    unfold edged2 at h
    rw [if_neg hs] at h
    exact h
  have early_late : ∀ {i : Nat}, earlyB E i = true → lateOf E i = [] := fun {i} he => by
    unfold lateOf late
    have hlt : i < E.size := by
      unfold earlyB at he
      split at he
      · rename_i ho; exact (Array.getElem?_eq_some_iff.1 ho).1
      · cases he
    rw [if_pos]
    simp [he, hlt]
  have hset : ∀ (l : Array Bool) (i : Nat), l.size = E.size → (∀ (j : Nat) (o : Oper), l[j]? = some true → E[j]? = some o → ∀ d ∈ deps o, l[d]? = some true) → i ∈ Region.ready .any E l →
      (∀ (j : Nat) (o : Oper), (l.setIfInBounds i true)[j]? = some true → E[j]? = some o → ∀ d ∈ deps o, (l.setIfInBounds i true)[d]? = some true) := by
    intro l i hl hc hi j o hj ho d hd
    obtain ⟨o', ho', h1, h2⟩ := (mem_ready hl).1 hi
    have mono : ∀ x, l[x]? = some true → (l.setIfInBounds i true)[x]? = some true := fun x hx => by
      rw [Array.getElem?_setIfInBounds]
      have hlt := (Array.getElem?_eq_some_iff.1 hx).1
      split
      · rename_i e; subst e; simp [hlt]
      · exact hx
    rw [Array.getElem?_setIfInBounds] at hj
    split at hj
    · rename_i e
      subst e
      rw [ho] at ho'; cases ho'
      exact mono d (h2 d hd)
    · exact mono d (hc j o hj ho d hd)
  have hfree : ∀ (l : Array Bool) (i : Nat), l.size = E.size → (∀ (j : Nat) (o : Oper), l[j]? = some true → E[j]? = some o → ∀ d ∈ deps o, l[d]? = some true) → i ∈ Region.ready .any E l →
      earlyB E i = true → ∃ o, E[i]? = some o ∧ slot2 o = true ∧ Region.free .any E l i = true := by
    intro l i hl hc hi he
    obtain ⟨o, ho, hu, hd⟩ := (mem_ready hl).1 hi
    have hrow : ∀ j ∈ rowAt_ E.toList i, l[j]? = some true := row_closed (L := fun j => l[j]? = some true) (fun j o h1 h2 => hc j o h1 (by simpa using h2)) i o (by simpa using ho) hd
    unfold earlyB at he
    rw [ho] at he
    simp only [] at he
    rw [Bool.and_eq_true] at he
    refine ⟨o, ho, he.1, ?_⟩
    have h := he.2
    simp only [Region.free, ho, List.all_eq_true, List.mem_range] at h ⊢
    intro j hj
    have h1 := h j hj
    rw [Bool.or_eq_true, Bool.or_eq_true] at h1
    rw [Bool.or_eq_true, Bool.or_eq_true]
    rcases h1 with (h1 | h1) | h1
    · exact .inl (.inl h1)
    · refine .inl (.inr ?_)
      have := hrow j (by unfold rowAt_; exact List.contains_iff_mem.1 h1)
      rw [Array.getD_eq_getD_getElem?, this]; rfl
    · exact .inr h1
  have hearly : ∀ (l : Array Bool) (i : Nat), l.size = E.size → earlyB E i = true → i ∈ Region.ready .any E l → i ∈ Region.ready .any (edged2 E) l := by
    intro l i hl he hi
    obtain ⟨o, ho, hu, hd⟩ := (mem_ready hl).1 hi
    exact (mem_ready (by rw [edged2_size]; exact hl)).2 ⟨_, by rw [edged2_get hs, ho, early_late he]; rfl, hu, by rw [deps_edges, List.append_nil]; exact hd⟩
  have hres : ∀ (l : Array Bool), l.size = E.size → (∀ (j : Nat) (o : Oper), l[j]? = some true → E[j]? = some o → ∀ d ∈ deps o, l[d]? = some true) →
      (¬ ∃ i, earlyB E i = true ∧ i ∈ Region.ready .any E l) → ∀ j, j ∈ Region.ready .any (edged2 E) l ↔ j ∈ Region.ready .any E l := by
    intro l hl hc hsp j
    rw [mem_ready (by rw [edged2_size]; exact hl), mem_ready hl, edged2_get hs]
    cases ho : E[j]? with
    | none => simp
    | some o =>
      simp only [Option.map_some, Option.some.injEq, exists_eq_left']
      rw [deps_edges]
      refine and_congr_right fun hu => ⟨fun h d hd => h d (List.mem_append_left _ hd), fun h d hd => ?_⟩
      rcases List.mem_append.1 hd with hd | hd
      · exact h d hd
      · unfold lateOf late at hd
        split at hd
        · cases hd
        · rw [List.mem_filter, List.mem_filter, Bool.and_eq_true, decide_eq_true_eq] at hd
          obtain ⟨⟨hd1, hd2⟩, hd3, hd4⟩ := hd
          have hlt := List.mem_range.1 hd1
          have hod : E[d]? = some E[d] := Array.getElem?_eq_getElem hlt
          unfold depsIn at hd4
          rw [hod] at hd4
          have hrow : ∀ i ∈ rowAt_ E.toList j, l[i]? = some true := row_closed (L := fun j => l[j]? = some true) (fun j o h1 h2 => hc j o h1 (by simpa using h2)) j o (by simpa using ho) h
          have hld : l[d]? = some (l[d]'(by omega)) := Array.getElem?_eq_getElem (by omega)
          cases hb : l[d]'(by omega) with
          | true => rw [hld, hb]
          | false =>
            exact absurd ⟨d, hd2, (mem_ready hl).2 ⟨_, hod, by rw [hld, hb], fun x hx => hrow x (by
              have := List.all_eq_true.1 hd4 x hx
              unfold rowAt_
              exact List.contains_iff_mem.1 this)⟩⟩ hsp
  intro fuel
  induction fuel with
  | zero =>
    rintro l a w hl hc ⟨h1, h2⟩
    refine ⟨?_, h2⟩
    by_cases hsp : ∃ i, earlyB E i = true ∧ i ∈ Region.ready .any E l
    · obtain ⟨i, he, hi⟩ := hsp
      have := hearly l i hl he hi
      rw [h1] at this; cases this
    · rw [List.eq_nil_iff_forall_not_mem] at h1 ⊢
      exact fun j hj => h1 j ((hres l hl hc hsp j).2 hj)
  | succ fuel ih =>
    intro l a w hl hc h
    by_cases hsp : ∃ i, earlyB E i = true ∧ i ∈ Region.ready .any E l
    · obtain ⟨i, he, hi⟩ := hsp
      have h1 := h.2 i (hearly l i hl he hi)
      rw [wpOp_same (edged2_same E)] at h1
      obtain ⟨o, ho, hs2, hf⟩ := hfree l i hl hc hi he
      obtain ⟨v, hy, hk⟩ := slot2_inv hs2 ho (fun a w hq => by have := hQ _ _ _ hq; cases this) h1
      refine wpAny_take ho hs hf (by simpa using hi) (fun c a w hq => by have := hQ _ _ _ hq; cases this) hy ?_
      exact ih _ _ _ (by simpa using hl) (hset l i hl hc hi) hk
    · refine ⟨fun h0 => h.1 ?_, fun i hi => ?_⟩
      · rw [List.eq_nil_iff_forall_not_mem] at h0 ⊢
        exact fun j hj => h0 j ((hres l hl hc hsp j).1 hj)
      · have := h.2 i ((hres l hl hc hsp i).2 hi)
        rw [wpOp_same (edged2_same E)] at this
        exact wpOp_mono (fun a' w' h3 => ih _ a' w' (by simpa using hl) (hset l i hl hc hi) h3) this

theorem draw_sound {C : Cfg} (horc : OrcOk C) (hmix : C.P.follows .mixedOrders = true) {k : Nat} (hcs : ∀ j, j < k → CallS C j) (m id : Nat) (ops : Array Oper) (st st' : St)
    (hok : dOk ops = true) (hx : runOps C k m (dHd ops) ops (List.range ops.size) st = some st') (ρ : Rho) (w : World) (a : Act) (hrel : Rel ρ w st a)
    (Q : Exit → Act → World → Prop) (hQ : ∀ ρ' w' a', Rel ρ' w' st' a' → Ext ρ w ρ' w' → Frs (curD st.H) m ρ w st'.wr w' → Q .normal a' w') : (Code.region id ops true).wp C.P Q a w := by
  refine Code.wp_mono (Q := fun e a w => e = .normal ∧ Q .normal a w) (by rintro e a w ⟨rfl, h⟩; exact h) ?_
  refine wp_region_any hmix ?_
  have h0 := draw_sound0 horc hcs m id (edged2 (edged ops)) st st' hok (by rw [edged2_size, edged_size, runOps_same (edged2_same _), runOps_edged]; exact hx) ρ w a hrel (fun e a w => e = .normal ∧ Q .normal a w) (fun ρ' w' a' h1 h2 h3 => ⟨rfl, hQ ρ' w' a' h1 h2 h3⟩)
  rw [edged2_size] at h0
  have h1 := early_first (fun e a w h => h.1) _ _ _ _ (by simp) (fun j o hj => by
    rw [Array.getElem?_replicate] at hj
    split at hj <;> cases hj) h0
  rw [edged_size, ← pl_zero] at h1
  rw [← pl_zero]
  exact slots_first (fun e a w h => h.1) (slotN ops) 0 a _ (by omega) h1

theorem sound {C : Cfg} (horc : OrcOk C) (hmix : C.P.follows .mixedOrders = true) : ∀ k, CallS C k ∧ ExecS C k ∧ RunS C k := by
  intro k
  induction k using Nat.strongRecOn with
  | _ k ih =>
    cases k with
    | zero => exact ⟨fun f args H v H' wr h => by simp [call] at h, fun m c st e st' h => by simp [exec] at h, fun m h ops todo st st' h' => by simp [runOps] at h'⟩
    | succ k =>
      have ihk := ih k (Nat.lt_succ_self _)
      refine ⟨call_sound horc ihk.2.1, exec_sound (fun j hj => (ih j (by omega)).2.1) ihk.2.2 fun m id ops st st' hok hx ρ w a hrel Q hQ => draw_sound horc hmix (fun j hj => (ih j (by omega)).1) m id ops st st' hok hx ρ w a hrel Q hQ, run_sound horc ihk.1 ihk.2.2⟩

/-- Nothing is there yet. -/
def rho0 : Rho := ⟨fun _ _ _ => none, fun _ => False, fun _ _ => False⟩
theorem rho0_none (d i u : Nat) (x : Nat × Nat) : ¬ rho0 d i u = some x := fun h => by cases h
theorem HRel.empty (w : World) : HRel rho0 [] w := by
  refine { obj := ?_, block := ?_, cov := ?_, res := ?_, low := ?_, ex := ?_, inj := ?_ }
  · intro _ _ _ _ _ h; exact absurd h (rho0_none _ _ _ _)
  · intro _ _ _ _ _ h; exact absurd h (rho0_none _ _ _ _)
  · intro _ _ _ _ _ h; exact absurd h (rho0_none _ _ _ _)
  · intro _ _ _ _ _ h; exact absurd h (rho0_none _ _ _ _)
  · intro _ h; exact h.elim
  · intro _ _; exact ⟨fun h => h.elim, fun h => by simp [getO] at h⟩
  · intro _ _ _ _ _ _ _ _ _ h; exact absurd h (rho0_none _ _ _ _)

/-- What the abstract machine answers from nothing is what the machine answers; what was there is as it was. -/
theorem calls_of {C : Cfg} (horc : OrcOk C) (hmix : C.P.follows .mixedOrders = true) {k f : Nat} {args : List PV} {vargs : List Value} {v : PV} {H' : Heap} {wr : Wr} (h : call C k f args [] = some (v, H', wr)) (w : World) (hl : LV rho0 w args vargs) :
    Calls C.P f vargs.toArray w fun e w' => ∃ r ρ', e = .returned r ∧ VR ρ' w' v r ∧ Below w.heap.size w w' := by
  refine ((sound horc hmix k).1 f args [] v H' wr h rho0 w vargs (HRel.empty w) hl).mono ?_
  rintro e w' ⟨r, ρ', rfl, h1, h2, h3, h4⟩
  refine ⟨r, ρ', rfl, h3, ⟨h2.os, h2.tape, h2.output, h2.size, fun b hb => ?_⟩⟩
  rcases h4 b hb with h5 | ⟨_, _, _, _, h5, _⟩
  · exact h5
  · cases h5

theorem calls_true {C : Cfg} (horc : OrcOk C) (hmix : C.P.follows .mixedOrders = true) {k f : Nat} {args : List PV} {vargs : List Value} {H' : Heap} {wr : Wr} (h : call C k f args [] = some (.bool true, H', wr)) (w : World) (hl : LV rho0 w args vargs) :
    Calls C.P f vargs.toArray w fun e w' => e = .returned (.bool true) ∧ Below w.heap.size w w' := by
  refine (calls_of horc hmix h w hl).mono ?_
  rintro e w' ⟨r, ρ', rfl, h1, h2⟩
  simp only [VR] at h1
  exact ⟨by rw [h1], h2⟩

end Go.Proofs.YtbcmiddffckgmaaDoor.Am
#print axioms Go.Proofs.YtbcmiddffckgmaaDoor.Am.calls_true
