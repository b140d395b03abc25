/- Control: regions in the order of their text, blocks, loops, calls. -/
import Derived.Test.YtbcmiddffckgmaaDoorAm9
import Derived.Deep.LoopGhost
import Derived.Orders
set_option linter.unusedVariables false
set_option linter.unusedSimpArgs false
set_option linter.unnecessarySimpa false
namespace Go.Proofs.YtbcmiddffckgmaaDoor.Am
open Go

theorem pushO_length (H : Heap) (o : AObj) : (pushO H o).length = H.length := by cases H <;> simp [pushO]
theorem newO_length (H : Heap) (cs : List PV) : (newO H cs).length = H.length := pushO_length _ _

theorem storeC_length {H H' : Heap} {d i u off hi : Nat} {cs : List PV} {wr : Wr} (h : storeC H d i u off hi cs = some (H', wr)) : H'.length = H.length := by
  unfold storeC at h
  simp only [Option.bind_eq_some_iff] at h
  obtain ⟨o, ho, h⟩ := h
  split at h
  · cases h; exact setO_length
  · cases h

theorem appendP_length {P : Program} {H H' : Heap} {t t2 : TypeId} {s x v : PV} {wr : Wr} (h : appendP P H t t2 s x = some (v, H', wr)) : H'.length = H.length := by
  unfold appendP at h
  split at h
  case h_2 => cases h
  simp only [Option.bind_eq_some_iff] at h
  obtain ⟨sz, hsz, by_, hby, z, hz, h⟩ := h
  split at h
  · cases h
  simp only [Option.bind_eq_some_iff] at h
  obtain ⟨⟨n, new⟩, hsrc, h⟩ := h
  simp only at h
  split at h
  · split at h
    · cases h; rfl
    · split at h
      · cases h; exact newO_length _ _
      · cases h
  · split at h
    · cases h; rfl
    · split at h
      · cases h; exact newO_length _ _
      · cases h
  · split at h
    · cases h
    · split at h
      · cases h; rfl
      · simp only [Option.bind_eq_some_iff] at h
        obtain ⟨o, ho, h⟩ := h
        split at h
        · split at h
          · cases h; exact newO_length _ _
          · cases h
        · split at h
          · split at h
            · cases h; exact setO_length
            · cases h
          · split at h
            · simp only [Option.map_eq_some_iff] at h
              obtain ⟨⟨H2, wr2⟩, hst, h⟩ := h
              cases h; exact storeC_length hst
            · cases h
  · cases h

theorem opP_length {P : Program} {ts : List PV} {H H' : Heap} {op : Op} {v : PV} {wr : Wr} (h : opP P ts H op = some (v, H', wr)) : H'.length = H.length := by
  unfold opP at h
  split at h
  case h_7 =>
    simp only [Option.bind_eq_some_iff] at h
    obtain ⟨ps, hps, h⟩ := h
    split at h
    case h_2 => cases h
    simp only [Option.bind_eq_some_iff] at h
    obtain ⟨sz, hsz, z, hz, h⟩ := h
    split at h
    case isFalse => cases h
    simp only [Option.map_eq_some_iff, Prod.mk.injEq] at h
    obtain ⟨cells, hf, _, rfl, _⟩ := h
    exact newO_length _ _
  case h_9 =>
    simp only [Option.bind_eq_some_iff, Option.map_eq_some_iff] at h
    obtain ⟨a, ha, b, hb, ⟨H2, w2⟩, hst, h⟩ := h
    cases h
    unfold storeP at hst
    split at hst
    · split at hst
      · exact storeC_length hst
      · cases hst
    · cases hst
  case h_22 =>
    simp only [Option.bind_eq_some_iff] at h
    obtain ⟨as, has, h⟩ := h
    split at h
    · simp only [Option.bind_eq_some_iff, Option.map_eq_some_iff, Prod.mk.injEq] at h
      obtain ⟨t, ht, v', hv, rfl, rfl, rfl⟩ := h; rfl
    · simp only [Option.bind_eq_some_iff] at h
      obtain ⟨t, ht, t2, ht2, h⟩ := h
      exact appendP_length h
    · simp only [Option.bind_eq_some_iff] at h
      obtain ⟨t, ht, h⟩ := h
      unfold copyP at h
      split at h
      case h_2 => cases h
      simp only [Option.bind_eq_some_iff] at h
      obtain ⟨sz, hsz, h⟩ := h
      split at h
      · cases h
      simp only [Option.bind_eq_some_iff] at h
      obtain ⟨⟨n, cells⟩, hsrc, h⟩ := h
      simp only at h
      split at h
      · cases h; rfl
      · split at h
        · cases h
        · split at h
          · cases h; rfl
          · simp only [Option.map_eq_some_iff] at h
            obtain ⟨⟨H2, w2⟩, hst, h⟩ := h
            cases h; exact storeC_length hst
      · cases h
    · simp only [Option.map_eq_some_iff, Prod.mk.injEq] at h
      obtain ⟨v', hv, rfl, rfl, rfl⟩ := h; rfl
    · simp only [Option.map_eq_some_iff, Prod.mk.injEq] at h
      obtain ⟨v', hv, rfl, rfl, rfl⟩ := h; rfl
    · cases h
  case h_4 =>
    simp only [Option.bind_eq_some_iff] at h
    obtain ⟨z, hz, h⟩ := h
    split at h
    · cases h
    · cases h; exact newO_length _ _
  case h_5 =>
    simp only [Option.bind_eq_some_iff] at h
    obtain ⟨z, hz, h⟩ := h
    split at h
    · cases h
    · cases h; exact newO_length _ _
  case h_6 =>
    simp only [Option.bind_eq_some_iff, Option.map_eq_some_iff, Prod.mk.injEq] at h
    obtain ⟨ps, hps, v', hv, rfl, rfl, rfl⟩ := h; rfl
  case h_14 =>
    split at h
    · simp only [Option.map_eq_some_iff, Prod.mk.injEq] at h
      obtain ⟨v', hv, rfl, rfl, rfl⟩ := h; rfl
    · cases h
  case h_15 =>
    simp only [Option.map_eq_some_iff, Option.bind_eq_some_iff] at h
    obtain ⟨lv, hlv, cv, hcv, ⟨v', H2⟩, hm, h⟩ := h
    cases h
    unfold makeSliceP at hm
    split at hm
    case h_2 => cases hm
    simp only [Option.bind_eq_some_iff] at hm
    obtain ⟨sz, hsz, by_, hby, z, hz, hm⟩ := hm
    split at hm
    · split at hm
      · cases hm; exact newO_length _ _
      · cases hm
    · cases hm
  case h_16 =>
    split at h
    · cases h
    · simp only [Option.map_eq_some_iff, Prod.mk.injEq] at h
      obtain ⟨v', hv, rfl, rfl, rfl⟩ := h; rfl
  case h_23 => cases h
  all_goals
    simp only [Option.map_eq_some_iff, Prod.mk.injEq] at h
    obtain ⟨v', hv, rfl, rfl, rfl⟩ := h
    rfl

theorem mem_addW {wr : Wr} {p q : Nat × Nat} (h : p ∈ wr) : p ∈ addW wr q := by unfold addW; split <;> simp [h]
theorem mem_addW_new {wr : Wr} {q : Nat × Nat} : q ∈ addW wr q := by unfold addW; split <;> simp_all
theorem mem_foldl_addW {new wr : Wr} {p : Nat × Nat} (h : p ∈ wr ∨ p ∈ new) : p ∈ new.foldl addW wr := by
  induction new generalizing wr with
  | nil => simpa using h
  | cons q new ih =>
    simp only [List.foldl_cons]
    apply ih
    rcases h with h | h
    · exact .inl (mem_addW h)
    · rcases List.mem_cons.1 h with rfl | h
      · exact .inl mem_addW_new
      · exact .inr h
theorem mem_addWs_old {D m : Nat} {wr new : Wr} {p : Nat × Nat} (h : p ∈ wr) : p ∈ addWs D m wr new := mem_foldl_addW (.inl h)
theorem mem_addWs_new {D m : Nat} {wr new : Wr} {p : Nat × Nat} (h : p ∈ new) (ho : outer D m p = true) : p ∈ addWs D m wr new := mem_foldl_addW (.inr (List.mem_filter.2 ⟨h, ho⟩))

structure Facts (C : Cfg) (k : Nat) : Prop where
  call : ∀ f args H v H' wr, Am.call C k f args H = some (v, H', wr) → H'.length = H.length
  exec : ∀ m c st e st', Am.exec C k m c st = some (e, st') → st'.H.length = st.H.length ∧ ∀ p ∈ st.wr, p ∈ st'.wr
  run : ∀ m h ops todo st st', runOps C k m h ops todo st = some st' → st'.H.length = st.H.length ∧ ∀ p ∈ st.wr, p ∈ st'.wr

theorem facts (C : Cfg) : ∀ k, Facts C k
  | 0 => ⟨fun f args H v H' wr h => by simp [call] at h, fun m c st e st' h => by simp [exec] at h, fun m h ops todo st st' h' => by simp [runOps] at h'⟩
  | k + 1 => by
    have ih := facts C k
    refine ⟨?_, ?_, ?_⟩
    · intro f args H v H' wr h
      simp only [call] at h
      split at h
      · simp only [Option.map_eq_some_iff, Prod.mk.injEq] at h
        obtain ⟨_, _, _, rfl, _⟩ := h; rfl
      · simp only [Option.bind_eq_some_iff] at h
        obtain ⟨fn, hfn, c, hc, h⟩ := h
        split at h
        · cases h
        split at h
        · simp only [Option.bind_eq_some_iff] at h
          obtain ⟨⟨e, st⟩, hx, h⟩ := h
          have := (ih.exec _ _ _ _ _ hx).1
          simp only at h
          split at h
          · cases h
          · simp only [Option.map_eq_some_iff, Prod.mk.injEq] at h
            obtain ⟨_, _, _, rfl, _⟩ := h; exact this
        · simp only [Option.bind_eq_some_iff] at h
          obtain ⟨⟨e, st⟩, hx, h⟩ := h
          have := (ih.exec _ _ _ _ _ hx).1
          simp only at h
          split at h
          · cases h
          · simp only [Option.bind_eq_some_iff, Option.map_eq_some_iff, Prod.mk.injEq] at h
            obtain ⟨_, _, _, _, _, rfl, _⟩ := h
            simp [this]
    · intro m c st e st' h
      rw [exec.eq_def] at h
      simp only at h
      split at h
      · cases h; exact ⟨rfl, fun p hp => hp⟩
      · cases h; exact ⟨rfl, fun p hp => hp⟩
      · simp only [Option.bind_eq_some_iff] at h
        obtain ⟨⟨e1, st1⟩, h1, h⟩ := h
        have f1 := ih.exec _ _ _ _ _ h1
        try simp only at h
        split at h
        · have f2 := ih.exec _ _ _ _ _ h
          exact ⟨f2.1.trans f1.1, fun p hp => f2.2 p (f1.2 p hp)⟩
        · cases h; exact f1
      · split at h
        · exact ih.exec _ _ _ _ _ h
        · exact ih.exec _ _ _ _ _ h
        · cases h
      · simp only [Option.map_eq_some_iff] at h
        obtain ⟨⟨e1, st1⟩, h1, h⟩ := h
        have f1 := ih.exec _ _ _ _ _ h1
        try simp only at h
        split at h <;> (cases h; exact f1)
      · simp only [Option.bind_eq_some_iff] at h
        obtain ⟨⟨e1, st1⟩, h1, h⟩ := h
        have f1 := ih.exec _ _ _ _ _ h1
        try simp only at h
        split at h
        · have f2 := ih.exec _ _ _ _ _ h
          exact ⟨f2.1.trans f1.1, fun p hp => f2.2 p (f1.2 p hp)⟩
        · cases h; exact f1
      · cases h; exact ⟨rfl, fun p hp => hp⟩
      · cases h; exact ⟨rfl, fun p hp => hp⟩
      · split at h
        · cases h
        · simp only [Option.map_eq_some_iff, Prod.mk.injEq] at h
          obtain ⟨st1, h1, _, rfl⟩ := h
          exact ih.run _ _ _ _ _ _ h1
      · cases h
    · intro m hh ops todo st st' h
      cases todo with
      | nil => simp only [runOps, Option.some.injEq] at h; subst h; exact ⟨rfl, fun p hp => hp⟩
      | cons i rest =>
        simp only [runOps] at h
        split at h
        · cases h
        rename_i o ho
        split at h
        · simp only [Option.bind_eq_some_iff] at h
          obtain ⟨⟨v, H', d⟩, hs, h⟩ := h
          have hl : H'.length = st.H.length := by
            split at hs
            · exact ih.call _ _ _ _ _ _ hs
            · exact opP_length hs
          simp only at h
          split at h
          · cases h
          have f2 := ih.run _ _ _ _ _ _ h
          exact ⟨f2.1.trans hl, fun p hp => f2.2 p (mem_addWs_old hp)⟩
        · have f2 := ih.run _ _ _ _ _ _ h
          exact f2

/-- A state of the abstract machine and one of the machine. -/
structure Rel (ρ : Rho) (w : World) (st : St) (a : Act) : Prop where
  heap : HRel ρ st.H w
  ne : st.H ≠ []
  ts : LV ρ w st.ts a.tmps.toList
  df : a.defers = []

def ctlE : Ctl → Exit
  | .norm => .normal
  | .exit id => .exit id
  | .ret => .ret

/-- What is written of what was there: the objects that are told, or such as are the call's own. -/
def Frs (D m : Nat) (ρ : Rho) (w : World) (wr : Wr) (w' : World) : Prop :=
  ∀ b, b < w.heap.size → w'.heap[b]? = w.heap[b]? ∨ ∃ d i u n, ρ d i u = some (b, n) ∧ ((d, i) ∈ wr ∨ outer D m (d, i) = false)

theorem Frs.refl (D m : Nat) (ρ : Rho) (w : World) (wr : Wr) : Frs D m ρ w wr w := fun _ _ => .inl rfl

theorem Frs.trans {D m : Nat} {ρ ρ1 : Rho} {w w1 w2 : World} {wr1 wr2 : Wr} (h : Frs D m ρ w wr1 w1) (he : Ext ρ w ρ1 w1) (h' : Frs D m ρ1 w1 wr2 w2) (hs : ∀ p ∈ wr1, p ∈ wr2) : Frs D m ρ w wr2 w2 := by
  intro b hb
  rcases h' b (Nat.lt_of_lt_of_le hb he.size) with h1 | ⟨d, i, u, n, h1, h2⟩
  · rcases h b hb with h3 | ⟨d, i, u, n, h3, h4⟩
    · exact .inl (h1.trans h3)
    · exact .inr ⟨d, i, u, n, h3, h4.imp (hs _) id⟩
  · rcases he.fresh _ _ _ _ _ h1 with ⟨u', n', h3⟩ | h3
    · exact .inr ⟨d, i, u', n', h3, h2⟩
    · omega

theorem Frm.frs {D m : Nat} {ρ : Rho} {w w' : World} {wr d : Wr} (h : Frm ρ w w' d) : Frs D m ρ w (addWs D m wr d) w' := by
  intro b hb
  rcases h b hb with h1 | ⟨d', i, u, n, h1, h2⟩
  · exact .inl h1
  · refine .inr ⟨d', i, u, n, h1, ?_⟩
    cases ho : outer D m (d', i) with
    | true => exact .inl (mem_addWs_new h2 ho)
    | false => exact .inr rfl

theorem LV_put {ρ : Rho} {w : World} {ts : List PV} {a : Act} (hl : LV ρ w ts a.tmps.toList) {v : PV} {val : Value} (hv : VR ρ w v val) (dst : Option Tmp) : LV ρ w (putP ts dst v) (a.put dst val).tmps.toList := by
  cases dst with
  | none => simpa [putP, Act.put] using hl
  | some d =>
    simp only [putP, Act.put, Array.toList_setIfInBounds]
    have hlen := LV_length _ _ hl
    refine LV_of_get _ _ (by simp; simpa using hlen) fun j c u hc hu => ?_
    by_cases e : d = j
    · subst e
      rw [List.getElem?_set] at hc hu
      simp only [if_true] at hc hu
      split at hc
      · rename_i hd
        cases hc
        rw [if_pos (by rw [← hlen]; exact hd)] at hu
        cases hu; exact hv
      · cases hc
    · rw [List.getElem?_set_ne e] at hc hu
      obtain ⟨u', h1, h2⟩ := LV_get _ _ hl _ _ hc
      rw [hu] at h1; cases h1; exact h2

theorem put_defers (a : Act) (dst : Option Tmp) (v : Value) : (a.put dst v).defers = a.defers := by cases dst <;> rfl

theorem VR_bool_inv {ρ : Rho} {w : World} {p : PV} {b : Bool} (h : VR ρ w p (.bool b)) : p = .bool b := by
  cases p <;> simp [VR] at h
  subst h; rfl

/-- The guard's slot, if there is one, reads alike. -/
theorem wanted_eq {ρ : Rho} {w : World} {ops : Array Oper} {ts : List PV} {a : Act} {o : Oper}
    (hg : ∀ j want t, o.guard = some (j, want) → (ops[j]?).bind (·.dst) = some t → (∃ p v, ts[t]? = some p ∧ a.tmps[t]? = some v ∧ VR ρ w p v) ∨ (ts[t]? = none ∧ a.tmps[t]? = none)) :
    Region.wanted o (yielded ops a.tmps) = wantedP o ops ts := by
  cases hgd : o.guard with
  | none => simp only [Region.wanted, wantedP, hgd]
  | some jw =>
    obtain ⟨j, want⟩ := jw
    simp only [Region.wanted, wantedP, hgd, yielded]
    cases hd : (ops[j]?).bind (·.dst) with
    | none => simp
    | some t =>
      simp only [Option.bind_some]
      rcases hg j want t hgd hd with ⟨p, v, h1, h2, h3⟩ | ⟨h1, h2⟩
      · rw [h1, h2]
        cases p <;> simp only [VR] at h3
        case bool b => subst h3; cases b <;> cases want <;> rfl
        all_goals first
          | (subst h3; cases want <;> rfl)
          | (obtain ⟨_, _, _, rfl, _⟩ := h3; cases want <;> rfl)
          | (obtain ⟨_, _, rfl, _⟩ := h3; cases want <;> rfl)
          | (obtain ⟨_, rfl, _⟩ := h3; cases want <;> rfl)
          | (obtain ⟨_, _, _, _, rfl, _⟩ := h3; cases want <;> rfl)
      · rw [h1, h2]; cases want <;> rfl

def CallS (C : Cfg) (k : Nat) : Prop := ∀ f args H v H' wr, call C k f args H = some (v, H', wr) → ∀ ρ w vargs, HRel ρ H w → LV ρ w args vargs →
  Calls C.P f vargs.toArray w fun e w' => ∃ r ρ', e = .returned r ∧ HRel ρ' H' w' ∧ Ext ρ w ρ' w' ∧ VR ρ' w' v r ∧ Frm ρ w w' wr

/-- What is taken on trust of a function's answers must be shown of the program. -/
def OrcOk (C : Cfg) : Prop := ∀ f g, C.orc f = some g → (∃ fn, C.P.funcs[f]? = some fn ∧ fn.body.isSome = true ∧ (fn.name == "runtime.NumGoroutine") = false) ∧
  ∀ args v, g args = some v → ∀ ρ H w vargs, HRel ρ H w → LV ρ w args vargs → Calls C.P f vargs.toArray w fun e w' => ∃ r ρ', e = .returned r ∧ HRel ρ' H w' ∧ Ext ρ w ρ' w' ∧ VR ρ' w' v r ∧ Frm ρ w w' []

theorem call_fn {C : Cfg} (ho : OrcOk C) {k f : Nat} {args : List PV} {H : Heap} {r : PV × Heap × Wr} (h : call C k f args H = some r) :
    ∃ fn, C.P.funcs[f]? = some fn ∧ fn.body.isSome = true ∧ (fn.name == "runtime.NumGoroutine") = false := by
  cases k with
  | zero => simp [call] at h
  | succ k =>
    simp only [call] at h
    split at h
    · rename_i g hg; exact (ho f g hg).1
    · simp only [Option.bind_eq_some_iff] at h
      obtain ⟨fn, hfn, c, hc, h⟩ := h
      split at h
      · cases h
      · rename_i hn; exact ⟨fn, hfn, by simp [hc], by simpa using hn⟩

theorem run_callFunc {P : Program} {w : World} {f : Nat} {fn : Func} {args : Array Value} (h1 : P.funcs[f]? = some fn) (h2 : fn.body.isSome = true) (h3 : (fn.name == "runtime.NumGoroutine") = false) :
    (callFunc f args).run P w = .ok (.enter f args) w := by
  have h2' : fn.body ≠ none := by intro e; simp [e] at h2
  have h3' : fn.name ≠ "runtime.NumGoroutine" := by simpa using h3
  simp [callFunc, h1, h3', h2']

/-- One operation. -/
theorem one_sound {C : Cfg} (horc : OrcOk C) {k : Nat} (hcs : CallS C k) {o : Oper} {ts : List PV} {H H' : Heap} {v : PV} {d : Wr}
    (hs : (match calleeP ts o.op with
          | some (f, as) => call C k f as H
          | none => opP C.P ts H o.op) = some (v, H', d)) {ρ : Rho} {w : World} {a : Act} (hr : HRel ρ H w) (hne : H ≠ []) (hev : EV ρ w ts a o.op.operands.toList)
    {K : Act → World → Prop} {Q : Exit → Act → World → Prop} (hK : ∀ val w' ρ', HRel ρ' H' w' → Ext ρ w ρ' w' → VR ρ' w' v val → Frm ρ w w' d → K (a.put o.dst val) w') : o.wp C.P a w K Q := by
  split at hs
  · rename_i f as hcal
    obtain ⟨fn, hf1, hf2, hf3⟩ := call_fn horc hs
    obtain ⟨dst, op, type, pos, after, guard⟩ := o
    simp only at hcal hev
    unfold calleeP at hcal
    split at hcal
    case h_2 => cases hcal
    rename_i fo args argTypes
    simp only [Option.bind_eq_some_iff] at hcal
    obtain ⟨fp, hfp, ps, hps, hcal⟩ := hcal
    split at hcal
    case h_2 => cases hcal
    rename_i g cap
    simp only [Option.some.injEq, Prod.mk.injEq] at hcal
    obtain ⟨rfl, rfl⟩ := hcal
    have hfv := hev fo (by simp [Op.operands, Call.operands]) _ hfp
    have hargs := evals_EV (hev.sub (by intro y hy; simp [Op.operands, Call.operands] at hy ⊢; simp [hy])) hps
    simp only [VR] at hfv
    obtain ⟨vcap, hfe, hcapl⟩ := hfv
    unfold Oper.wp
    have hrun : (execOp a.eval { dst, op := .call { callee := .value fo, args, argTypes }, type, pos, after, guard }).run C.P w = .ok (.enter g ((args.toList.map a.eval) ++ vcap).toArray) w := by
      have hcf := run_callFunc (w := w) (args := ((args.toList.map a.eval) ++ vcap).toArray) hf1 hf2 hf3
      have harr : #[] ++ args.map a.eval ++ vcap.toArray = ((args.toList.map a.eval) ++ vcap).toArray := by apply Array.ext'; simp
      simp only [execOp, resolve, hfe, Deferred.ofValue, Sem.run_bind, Sem.run_pure, Result.andThen_ok, invoke]
      rw [harr, hcf]
    rw [hrun, Oper.upon_enter]
    refine (hcs _ _ _ _ _ _ hs ρ w _ hr (LV_append _ _ _ _ hargs hcapl)).mono ?_
    rintro e w' ⟨r, ρ', rfl, h1, h2, h3, h4⟩
    exact hK r w' ρ' h1 h2 h3 h4
  · obtain ⟨nx, val, w', ρ', h⟩ := opP_sound (P := C.P) hne hr hev hs
    unfold Oper.wp
    rw [h.run]
    rcases h.form with hn | ⟨hn, hval⟩
    · subst hn; exact hK val w' ρ' h.rel h.ext h.vr h.frm
    · subst hn; subst hval; exact hK undef w' ρ' h.rel h.ext h.vr h.frm

def RunS (C : Cfg) (k : Nat) : Prop := ∀ m h ops todo st st', runOps C k m h ops todo st = some st' → ∀ ρ w a, Rel ρ w st a → ∀ Q : Exit → Act → World → Prop,
  (∀ ρ' w' a', Rel ρ' w' st' a' → Ext ρ w ρ' w' → Frs (curD st.H) m ρ w st'.wr w' → Q .normal a' w') → wpOps C.P ops Q todo a w

def ExecS (C : Cfg) (k : Nat) : Prop := ∀ m c st e st', exec C k m c st = some (e, st') → ∀ ρ w a, Rel ρ w st a → ∀ Q : Exit → Act → World → Prop,
  (∀ ρ' w' a', Rel ρ' w' st' a' → Ext ρ w ρ' w' → Frs (curD st.H) m ρ w st'.wr w' → Q (ctlE e) a' w') → c.wp C.P Q a w

theorem curD_eq {H H' : Heap} (h : H'.length = H.length) : curD H' = curD H := by simp [curD, h]
theorem ne_of_len {H H' : Heap} (h : H'.length = H.length) (hne : H ≠ []) : H' ≠ [] := by
  rintro rfl; exact hne (List.eq_nil_of_length_eq_zero (by simpa using h.symm))

theorem guard_rel {ρ : Rho} {w : World} {ts : List PV} {a : Act} (hl : LV ρ w ts a.tmps.toList) (t : Nat) : (∃ p v, ts[t]? = some p ∧ a.tmps[t]? = some v ∧ VR ρ w p v) ∨ (ts[t]? = none ∧ a.tmps[t]? = none) := by
  cases h : ts[t]? with
  | some p =>
    obtain ⟨v, h1, h2⟩ := LV_get _ _ hl _ _ h
    exact .inl ⟨p, v, rfl, by simpa using h1, h2⟩
  | none =>
    have hlen := LV_length _ _ hl
    have := List.getElem?_eq_none_iff.1 h
    exact .inr ⟨rfl, by rw [Array.getElem?_eq_none_iff]; simp at hlen; omega⟩

theorem run_sound {C : Cfg} (horc : OrcOk C) {k : Nat} (hcs : CallS C k) (hrs : RunS C k) : RunS C (k + 1) := by
  intro m h ops todo st st' hx ρ w a hrel Q hQ
  cases todo with
  | nil =>
    simp only [runOps, Option.some.injEq] at hx
    subst hx
    exact hQ ρ w a hrel (.refl _ _) (.refl _ _ _ _ _)
  | cons i rest =>
    rw [wpOps_cons]
    simp only [runOps] at hx
    split at hx
    · cases hx
    rename_i o ho
    unfold wpOp
    rw [ho]
    simp only
    have hwe : Region.wanted o (yielded ops a.tmps) = wantedP o ops st.ts := wanted_eq fun j want t _ _ => guard_rel hrel.ts t
    rw [hwe]
    split at hx
    · rename_i hw
      rw [if_pos hw]
      simp only [Option.bind_eq_some_iff] at hx
      obtain ⟨⟨v, H', d⟩, hs, hx⟩ := hx
      simp only at hx
      split at hx
      · cases hx
      refine .inl (one_sound horc hcs hs hrel.heap hrel.ne (.of hrel.ts _) fun val w1 ρ1 h1 h2 h3 h4 => ?_)
      have hlen : H'.length = st.H.length := by
        split at hs
        · exact (facts C k).call _ _ _ _ _ _ hs
        · exact opP_length hs
      refine hrs _ _ _ _ _ _ hx ρ1 w1 _ ⟨h1, ne_of_len hlen hrel.ne, LV_put (LV.ext h2 _ _ hrel.ts) h3 _, by rw [put_defers]; exact hrel.df⟩ Q fun ρ' w' a' r1 r2 r3 => hQ ρ' w' a' r1 (h2.trans r2) ?_
      simp only [curD_eq hlen] at r3
      exact (h4.frs (D := curD st.H) (m := m) (wr := st.wr)).trans h2 r3 ((facts C k).run _ _ _ _ _ _ hx).2
    · rename_i hw
      rw [if_neg hw]
      refine hrs _ _ _ _ _ _ hx ρ w _ ⟨hrel.heap, hrel.ne, LV_put hrel.ts (VR_undef _ _) _, by rw [put_defers]; exact hrel.df⟩ Q fun ρ' w' a' r1 r2 r3 => hQ ρ' w' a' r1 r2 r3

theorem exec_sound {C : Cfg} {k : Nat} (hes : ∀ j, j ≤ k → ExecS C j) (hrs : RunS C k)
    (hdraw : ∀ m id ops st st', dOk ops = true → runOps C k m (dHd ops) ops (List.range ops.size) st = some st' → ∀ ρ w a, Rel ρ w st a → ∀ Q : Exit → Act → World → Prop,
      (∀ ρ' w' a', Rel ρ' w' st' a' → Ext ρ w ρ' w' → Frs (curD st.H) m ρ w st'.wr w' → Q .normal a' w') → (Code.region id ops true).wp C.P Q a w) : ExecS C (k + 1) := by
  intro m c st e st' hx ρ w a hrel Q hQ
  rw [exec.eq_def] at hx
  simp only at hx
  split at hx
  · cases hx; exact wp_skip (hQ _ _ _ hrel (.refl _ _) (.refl _ _ _ _ _))
  · cases hx; exact wp_label (hQ _ _ _ hrel (.refl _ _) (.refl _ _ _ _ _))
  · simp only [Option.bind_eq_some_iff] at hx
    obtain ⟨⟨e1, st1⟩, h1, hx⟩ := hx
    have f1 := (facts C k).exec _ _ _ _ _ h1
    refine wp_seq (hes k (Nat.le_refl _) _ _ _ _ _ h1 ρ w a hrel _ fun ρ1 w1 a1 r1 r2 r3 => ?_)
    try simp only at hx
    split at hx
    · have f2 := (facts C k).exec _ _ _ _ _ hx
      refine hes k (Nat.le_refl _) _ _ _ _ _ hx ρ1 w1 a1 r1 Q fun ρ2 w2 a2 q1 q2 q3 => hQ ρ2 w2 a2 q1 (r2.trans q2) ?_
      rw [curD_eq f1.1] at q3
      exact r3.trans r2 q3 f2.2
    · rename_i hne
      cases hx
      have := hQ ρ1 w1 a1 r1 r2 r3
      cases e <;> first
        | exact (hne rfl).elim
        | exact this
  · rename_i c x y
    split at hx
    · rename_i hc
      have := evalO_VR hrel.ts hc
      simp only [VR] at this
      exact wp_cond_true this (hes k (Nat.le_refl _) _ _ _ _ _ hx ρ w a hrel Q hQ)
    · rename_i hc
      have := evalO_VR hrel.ts hc
      simp only [VR] at this
      exact wp_cond_false this (hes k (Nat.le_refl _) _ _ _ _ _ hx ρ w a hrel Q hQ)
    · cases hx
  · rename_i id b
    simp only [Option.map_eq_some_iff] at hx
    obtain ⟨⟨e1, st1⟩, h1, hx⟩ := hx
    refine wp_block (hes k (Nat.le_refl _) _ _ _ _ _ h1 ρ w a hrel _ fun ρ1 w1 a1 r1 r2 r3 => ?_)
    try simp only at hx
    split at hx
    · rename_i j
      cases hx
      have := hQ ρ1 w1 a1 r1 r2 r3
      simp only [ctlE, Exit.inBlock] at this ⊢
      by_cases hj : j = id
      · rw [if_pos hj] at this ⊢; exact this
      · rw [if_neg hj] at this ⊢; exact this
    · rename_i hne
      cases hx
      have := hQ ρ1 w1 a1 r1 r2 r3
      cases e <;> first
        | exact this
        | exact (hne _ rfl).elim
  · rename_i b
    simp only [Option.bind_eq_some_iff] at hx
    obtain ⟨⟨e1, st1⟩, h1, hx⟩ := hx
    -- the loop, from any fuel on
    refine wp_loop_ghost (fun n a1 w1 => ∃ ρ1 st1, n ≤ k + 1 ∧ exec C n m (.loop b) st1 = some (e, st') ∧ Rel ρ1 w1 st1 a1 ∧ Ext ρ w ρ1 w1 ∧ Frs (curD st.H) m ρ w st1.wr w1 ∧ st1.H.length = st.H.length) (k + 1)
      ⟨ρ, st, Nat.le_refl _, ?_, hrel, .refl _ _, .refl _ _ _ _ _, rfl⟩ ?_
    · rw [exec.eq_def]; simp only; rw [h1]; exact hx
    · rintro n a1 w1 ⟨ρ1, s1, hn, hx1, hrel1, hext1, hfr1, hlen1⟩
      cases n with
      | zero => simp [exec] at hx1
      | succ n =>
        rw [exec.eq_def] at hx1
        simp only [Option.bind_eq_some_iff] at hx1
        obtain ⟨⟨e2, s2⟩, h2, hx2⟩ := hx1
        have f2 := (facts C n).exec _ _ _ _ _ h2
        refine hes n (by omega) _ _ _ _ _ h2 ρ1 w1 a1 hrel1 _ fun ρ2 w2 a2 r1 r2 r3 => ?_
        rw [curD_eq hlen1] at r3
        have hfr2 := hfr1.trans hext1 r3 f2.2
        try simp only at hx2
        split at hx2
        · exact ⟨n, by omega, ρ2, s2, by omega, hx2, r1, hext1.trans r2, hfr2, f2.1.trans hlen1⟩
        · rename_i hne
          cases hx2
          have := hQ ρ2 w2 a2 r1 (hext1.trans r2) hfr2
          cases e <;> first
            | exact (hne rfl).elim
            | exact this
  · cases hx; exact wp_exit (hQ _ _ _ hrel (.refl _ _) (.refl _ _ _ _ _))
  · cases hx; exact wp_ret (hQ _ _ _ hrel (.refl _ _) (.refl _ _ _ _ _))
  · rename_i id ops draw
    split at hx
    · cases hx
    rename_i hok
    simp only [Option.map_eq_some_iff, Prod.mk.injEq] at hx
    obtain ⟨s1, h1, rfl, rfl⟩ := hx
    cases draw with
    | false => exact wp_region (hrs _ _ _ _ _ _ h1 ρ w a hrel Q hQ)
    | true =>
      simp only [if_true] at h1
      exact hdraw _ id _ _ _ (by simpa using hok) h1 ρ w a hrel Q hQ
  · cases hx

end Go.Proofs.YtbcmiddffckgmaaDoor.Am
