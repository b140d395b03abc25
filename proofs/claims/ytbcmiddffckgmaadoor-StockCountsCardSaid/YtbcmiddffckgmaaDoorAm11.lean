/- Calls: the results, the end of the frame. -/
import Derived.Test.YtbcmiddffckgmaaDoorAm10
set_option linter.unusedVariables false
set_option linter.unusedSimpArgs false
set_option linter.unnecessarySimpa false
namespace Go.Proofs.YtbcmiddffckgmaaDoor.Am
open Go

/-- How the machine reads a result. -/
def readR (tmps : Array Value) : ResultVar → Sem Value
  | .tmp t => pure (tmps.getD t undef)
  | .cell c t => do loadVar t (← asAddr (tmps.getD c undef))

theorem resultP_sound {P : Program} {ρ : Rho} {H : Heap} {w : World} (hr : HRel ρ H w) {ts : List PV} {a : Act} (hl : LV ρ w ts a.tmps.toList) {x : ResultVar} {v : PV} (h : resultP P H ts x = some v) :
    ∃ val, (readR a.tmps x).run P w = .ok val w ∧ VR ρ w v val := by
  unfold readR
  cases x with
  | tmp t =>
    simp only [resultP, Option.some.injEq] at h
    have := evalO_VR hl (x := .tmp t) (p := v) (by simp only [evalO]; rw [h])
    exact ⟨_, rfl, this⟩
  | cell c t =>
    simp only [resultP] at h
    have hc := evalO_VR hl (x := .tmp c) (p := (ts[c]?).getD undefP) rfl
    obtain ⟨val, h1, h2⟩ := loadP_sound (P := P) hr h hc
    refine ⟨val, ?_, h2⟩
    simp only [Act.eval] at h1
    simp only
    generalize a.tmps.getD c undef = xv at h1 ⊢
    cases xv <;> simp [Instr.loadAt, Instr.sureAddr] at h1
    rename_i ad
    cases ad with
    | none => simp [Instr.loadAt, Instr.sureAddr] at h1
    | some ad => simpa [asAddr, Instr.loadAt, Instr.sureAddr] using h1

theorem resultsP_sound {P : Program} {ρ : Rho} {H : Heap} {w : World} (hr : HRel ρ H w) {ts : List PV} {a : Act} (hl : LV ρ w ts a.tmps.toList) {fn : Func} {v : PV} (h : resultsP P fn H ts = some v) :
    ∃ val, (results fn a.tmps).run P w = .ok val w ∧ VR ρ w v val := by
  unfold resultsP at h
  simp only [Option.map_eq_some_iff] at h
  obtain ⟨ps, hps, hv⟩ := h
  have hlist : ∀ (xs : List ResultVar) (ps : List PV), mapO (resultP P H ts) xs = some ps → ∃ vs : List Value, (xs.mapM (readR a.tmps)).run P w = .ok vs w ∧ LV ρ w ps vs := by
    intro xs
    induction xs with
    | nil => intro ps hp; simp [mapO] at hp; subst hp; exact ⟨[], by simp, by simp [LV]⟩
    | cons x xs ih =>
      intro ps hp
      simp only [mapO, Option.bind_eq_some_iff, Option.map_eq_some_iff] at hp
      obtain ⟨p, hp1, ps', hp2, rfl⟩ := hp
      obtain ⟨vs, e1, e2⟩ := ih ps' hp2
      obtain ⟨u, e3, e4⟩ := resultP_sound (P := P) hr hl hp1
      refine ⟨u :: vs, ?_, by simp only [LV]; exact ⟨u, vs, rfl, e4, e2⟩⟩
      rw [List.mapM_cons]
      simp only [Sem.run_bind]
      cases x <;> simp_all
  obtain ⟨vs, e1, e2⟩ := hlist _ _ hps
  have hlen := LV_length _ _ e2
  have hrun : ∀ r, (pure (if h : vs.toArray.size = 1 then vs.toArray[0] else .tuple vs.toArray) : Sem Value).run P w = .ok r w → (results fn a.tmps).run P w = .ok r w := by
    intro r hr'
    have hres : results fn a.tmps = (do let vs ← fn.results.mapM (readR a.tmps); pure (if h : vs.size = 1 then vs[0] else .tuple vs)) := rfl
    rw [hres, Array.mapM_eq_mapM_toList]
    simp only [Sem.run_bind, Sem.run_map, e1, Result.andThen_ok]
    exact hr'
  split at hv
  · rename_i p
    subst hv
    match vs, hlen, e2, hrun with
    | [u], _, e2, hrun =>
      simp only [LV] at e2
      obtain ⟨u', vs', h1, h2, h3⟩ := e2
      cases h1
      exact ⟨u, hrun u (by simp), h2⟩
  · rename_i hne
    subst hv
    refine ⟨.tuple vs.toArray, hrun _ ?_, by simp only [VR]; exact ⟨vs, rfl, e2⟩⟩
    have : vs.toArray.size ≠ 1 := by
      simp
      intro h1
      match ps, hlen, hne with
      | [p], _, hne => exact hne p rfl
      | [], hl, _ => simp [h1] at hl
      | _ :: _ :: _, hl, _ => simp [h1] at hl
    simp [this]
    intro h1; simp at this; exact absurd h1 this

theorem act_start {ρ : Rho} {w : World} {args : List PV} {vargs : List Value} (hl : LV ρ w args vargs) (n : Nat) :
    LV ρ w (args ++ List.replicate (n - args.length) undefP) (vargs.toArray ++ Array.replicate (n - vargs.toArray.size) undef).toList := by
  have hlen := LV_length _ _ hl
  have : (vargs.toArray ++ Array.replicate (n - vargs.toArray.size) undef).toList = vargs ++ List.replicate (n - vargs.length) undef := by simp
  rw [this, ← hlen]
  exact LV_append _ _ _ _ hl (LV_replicate (VR_undef _ _) _)

theorem call_sound {C : Cfg} (horc : OrcOk C) {k : Nat} (hes : ExecS C k) : CallS C (k + 1) := by
  intro f args H v H' wr hx ρ w vargs hr hl
  simp only [call] at hx
  split at hx
  · rename_i g hg
    simp only [Option.map_eq_some_iff, Prod.mk.injEq] at hx
    obtain ⟨v', hv, rfl, rfl, rfl⟩ := hx
    exact (horc f g hg).2 _ _ hv ρ H w vargs hr hl
  · simp only [Option.bind_eq_some_iff] at hx
    obtain ⟨fn, hfn, c, hc, hx⟩ := hx
    split at hx
    · cases hx
    split at hx
    · -- in the caller's frame
      rename_i hinl
      simp only [Option.bind_eq_some_iff] at hx
      obtain ⟨⟨e, st⟩, h1, hx⟩ := hx
      try simp only at hx
      have hrel : Rel ρ w ⟨args ++ List.replicate (fn.ntmps - args.length) undefP, H, []⟩ { tmps := vargs.toArray ++ Array.replicate (fn.ntmps - vargs.toArray.size) undef, defers := [] } :=
        ⟨hr, hinl.2, act_start hl _, rfl⟩
      refine calls_of_wp hfn hc (hes _ _ _ _ _ h1 ρ w _ hrel _ fun ρ' w' a' r1 r2 r3 => ?_)
      have hpost : ∀ (e0 : Ctl), e0 = .norm ∨ e0 = .ret → (resultsP C.P fn st.H st.ts).map (fun v => (v, st.H, st.wr)) = some (v, H', wr) →
          bodyPost C.P fn (fun e w' => ∃ r ρ', e = .returned r ∧ HRel ρ' H' w' ∧ Ext ρ w ρ' w' ∧ VR ρ' w' v r ∧ Frm ρ w w' wr) (ctlE e0) a' w' := by
        intro e0 he0 hres
        simp only [Option.map_eq_some_iff, Prod.mk.injEq] at hres
        obtain ⟨v', hv, rfl, rfl, rfl⟩ := hres
        obtain ⟨val, q1, q2⟩ := resultsP_sound (P := C.P) r1.heap r1.ts hv
        have hfin : a'.defers = [] ∧ ∃ u, (results fn a'.tmps).run C.P w' = .ok u w' ∧ ∃ r ρ', Ending.returned u = .returned r ∧ HRel ρ' st.H w' ∧ Ext ρ w ρ' w' ∧ VR ρ' w' v' r ∧ Frm ρ w w' st.wr := by
          refine ⟨r1.df, val, q1, val, ρ', rfl, r1.heap, r2, q2, fun b hb => ?_⟩
          rcases r3 b hb with h2 | ⟨d, i, u, n, h2, h3⟩
          · exact .inl h2
          · refine .inr ⟨d, i, u, n, h2, h3.resolve_right ?_⟩
            obtain ⟨o, ho, _⟩ := hr.obj _ _ _ _ _ h2
            have hlt := getO_lt ho
            have : outer (curD H) (curN H) (d, i) = true := by
              cases H with
              | nil => simp at hlt
              | cons f0 fs =>
                simp only [getO] at ho
                simp only [outer, curD, curN, List.length_cons, Nat.add_sub_cancel, Bool.or_eq_true, decide_eq_true_eq, Bool.and_eq_true, beq_iff_eq]
                split at ho
                · rename_i hd
                  refine .inr ⟨hd, ?_⟩
                  rcases Nat.lt_or_ge i f0.length with h | h
                  · exact decide_eq_true h
                  · rw [List.getElem?_eq_none h] at ho; cases ho
                · simp at hlt; exact .inl (by omega)
            rw [this]; simp
        rcases he0 with rfl | rfl
        · exact hfin
        · exact hfin
      cases e with
      | norm => exact hpost .norm (.inl rfl) hx
      | exit id => cases hx
      | ret => exact hpost .ret (.inr rfl) hx
    · -- in a frame of its own
      simp only [Option.bind_eq_some_iff] at hx
      obtain ⟨⟨e, st⟩, h1, hx⟩ := hx
      try simp only at hx
      have hrel : Rel ρ w ⟨args ++ List.replicate (fn.ntmps - args.length) undefP, [] :: H, []⟩ { tmps := vargs.toArray ++ Array.replicate (fn.ntmps - vargs.toArray.size) undef, defers := [] } :=
        ⟨hr.push, by simp, act_start hl _, rfl⟩
      have hlenS := ((facts C k).exec _ _ _ _ _ h1).1
      refine calls_of_wp hfn hc (hes _ _ _ _ _ h1 ρ w _ hrel _ fun ρ' w' a' r1 r2 r3 => ?_)
      have hpost : ∀ (e0 : Ctl), e0 = .norm ∨ e0 = .ret → ((resultsP C.P fn st.H st.ts).bind fun v => (reify st.H H.length C.deep v).map fun v => (v, st.H.tail, st.wr)) = some (v, H', wr) →
          bodyPost C.P fn (fun e w' => ∃ r ρ', e = .returned r ∧ HRel ρ' H' w' ∧ Ext ρ w ρ' w' ∧ VR ρ' w' v r ∧ Frm ρ w w' wr) (ctlE e0) a' w' := by
        intro e0 he0 hres
        simp only [Option.bind_eq_some_iff, Option.map_eq_some_iff, Prod.mk.injEq] at hres
        obtain ⟨v1, hv1, v', hv, rfl, rfl, rfl⟩ := hres
        obtain ⟨val, q1, q2⟩ := resultsP_sound (P := C.P) r1.heap r1.ts hv1
        have hfin : a'.defers = [] ∧ ∃ u, (results fn a'.tmps).run C.P w' = .ok u w' ∧ ∃ r ρ', Ending.returned u = .returned r ∧ HRel ρ' st.H.tail w' ∧ Ext ρ w ρ' w' ∧ VR ρ' w' v' r ∧ Frm ρ w w' st.wr := by
          have hheap := r1.heap
          cases hH : st.H with
          | nil => rw [hH] at hlenS; simp at hlenS
          | cons f1 fs1 =>
            rw [hH] at hheap hlenS hv
            simp only [List.length_cons, Nat.add_right_cancel_iff] at hlenS
            rw [← hlenS] at hv
            refine ⟨r1.df, val, q1, val, cutR ρ' (fun d _ => decide (d < fs1.length)) ρ'.G, rfl, hheap.pop, ?_, reify_sound hheap _ _ _ _ hv q2, fun b hb => ?_⟩
            · refine ⟨⟨fun d i u x hx => ?_, r2.size, r2.keep, fun d i u b n hx => r2.fresh d i u b n (cutR_some hx).1, r2.shape, r2.os, r2.tape, r2.output, r2.res⟩, fun d i he => ⟨decide_eq_true ?_, r2.exm d i he⟩, fun d i u x hx => r2.newo d i u x (cutR_some hx).1⟩
              rotate_left 1
              · obtain ⟨o, ho⟩ := Option.isSome_iff_exists.1 ((hr.ex d i).1 he)
                have := getO_lt ho; omega
              obtain ⟨b, n⟩ := x
              obtain ⟨o, ho, _⟩ := hr.obj _ _ _ _ _ hx
              have := getO_lt ho
              exact cutR_of (r2.sub _ _ _ _ hx) (decide_eq_true (by omega))
            · rcases r3 b hb with h2 | ⟨d, i, u, n, h2, h3⟩
              · exact .inl h2
              · refine .inr ⟨d, i, u, n, h2, h3.resolve_right ?_⟩
                obtain ⟨o, ho, _⟩ := hr.obj _ _ _ _ _ h2
                have hlt := getO_lt ho
                have : outer (curD ([] :: H)) 0 (d, i) = true := by
                  simp only [outer, curD, List.length_cons, Nat.add_sub_cancel, Bool.or_eq_true, decide_eq_true_eq]
                  exact .inl hlt
                rw [this]; simp
        rcases he0 with rfl | rfl
        · exact hfin
        · exact hfin
      cases e with
      | norm => exact hpost .norm (.inl rfl) hx
      | exit id => cases hx
      | ret => exact hpost .ret (.inr rfl) hx

end Go.Proofs.YtbcmiddffckgmaaDoor.Am
