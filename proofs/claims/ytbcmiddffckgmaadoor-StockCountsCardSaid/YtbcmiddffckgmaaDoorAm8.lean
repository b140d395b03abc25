/- Each operation that is no call of a Go function. -/
import Derived.Test.YtbcmiddffckgmaaDoorAm7
set_option linter.unusedVariables false
set_option linter.unusedSimpArgs false
set_option linter.unnecessarySimpa false
namespace Go.Proofs.YtbcmiddffckgmaaDoor.Am
open Go

theorem unOpP_sound {P : Program} {ρ : Rho} {w : World} {op : UnOp} {x v : PV} {xv : Value} (h : unOpP op x = some v) (hx : VR ρ w x xv) : ∃ val, (Op.unary op xv).run P w = .ok val w ∧ VR ρ w v val := by
  unfold unOpP at h
  split at h
  · cases h; simp only [VR] at hx; subst hx; exact ⟨_, by simp [Op.unary, Op.intArith]; rfl, by simp [VR]⟩
  · simp only [bitsP, Option.some.injEq] at h; subst h; simp only [VR] at hx; subst hx; exact ⟨_, by simp [Op.unary, Op.intBits]; rfl, by simp [VR]⟩
  · cases h; simp only [VR] at hx; subst hx; exact ⟨_, by simp [Op.unary]; rfl, by simp [VR]⟩
  · cases h

theorem convertP_sound {P : Program} {ρ : Rho} {w : World} {s d : TypeId} {x v : PV} {xv : Value} (h : convertP P s d x = some v) (hx : VR ρ w x xv) : ∃ val, (convert s d xv).run P w = .ok val w ∧ VR ρ w v val := by
  unfold convertP at h
  split at h
  · rename_i ds k kk n hs hd
    cases h; simp only [VR] at hx; subst hx
    exact ⟨_, by simp [convert, run_underlying hs, run_underlying hd, Conv.intToInt]; rfl, by simp [VR]⟩
  · rename_i ds ss hs hd
    cases h; simp only [VR] at hx; subst hx
    refine ⟨.string ss, ?_, by simp [VR]⟩
    simp only [convert, Sem.run_bind, run_underlying hs, run_underlying hd, Result.andThen_ok]
    cases ds <;> rfl
  · cases h

theorem minMax_fold {P : Program} {ρ : Rho} {w : World} (mx : Bool) : ∀ (xs : List PV) (vs : List Value) (x r : PV) (xv : Value), LV ρ w xs vs → VR ρ w x xv →
    xs.foldlM (fun x y => match x, y with
      | .int k x, .int _ y => some (PV.int k (if mx then (if y > x then y else x) else (if y < x then y else x)))
      | _, _ => none) x = some r →
    ∃ rv, (if mx then vs.foldlM Builtin.max2 xv else vs.foldlM Builtin.min2 xv : Sem Value).run P w = .ok rv w ∧ VR ρ w r rv
  | [], vs, x, r, xv, hl, hx, h => by
    simp [LV] at hl; subst hl
    simp at h; subst h
    exact ⟨xv, by cases mx <;> simp, hx⟩
  | y :: ys, vs, x, r, xv, hl, hx, h => by
    simp only [LV] at hl
    obtain ⟨yv, vs', rfl, hy, hl'⟩ := hl
    simp only [List.foldlM_cons, Option.bind_eq_bind, Option.bind_eq_some_iff] at h
    obtain ⟨z, hz, h⟩ := h
    split at hz
    · rename_i k a _ b
      cases hz
      simp only [VR] at hx hy
      subst hx; subst hy
      obtain ⟨rv, e1, e2⟩ := minMax_fold mx ys vs' _ r (.int k (if mx then (if b > a then b else a) else (if b < a then b else a))) hl' (by simp [VR]) h
      refine ⟨rv, ?_, e2⟩
      cases mx
      · simp only [List.foldlM_cons, Sem.run_bind, Builtin.min2, Sem.run_pure, Result.andThen_ok, Bool.false_eq_true, if_false] at e1 ⊢
        exact e1
      · simp only [List.foldlM_cons, Sem.run_bind, Builtin.max2, Sem.run_pure, Result.andThen_ok, if_true] at e1 ⊢
        exact e1
    · cases hz

theorem minMaxP_sound {P : Program} {ρ : Rho} {w : World} {mx : Bool} {xs : List PV} {vs : List Value} {r : PV} (hl : LV ρ w xs vs) (h : minMaxP mx xs = some r) (ats : Array TypeId) (ty : TypeId) :
    ∃ rv, (if mx then Builtin.max_ ats ty vs.toArray else Builtin.min_ ats ty vs.toArray : Sem Value).run P w = .ok rv w ∧ VR ρ w r rv := by
  cases xs with
  | nil => simp [minMaxP] at h
  | cons x xs =>
    simp only [LV] at hl
    obtain ⟨xv, vs', rfl, hx, hl'⟩ := hl
    obtain ⟨rv, e1, e2⟩ := minMax_fold (P := P) mx xs vs' x r xv hl' hx h
    refine ⟨rv, ?_, e2⟩
    cases mx <;> simpa [Builtin.max_, Builtin.min_] using e1

/-- Operands that can be read stand for what the machine reads. -/
def EV (ρ : Rho) (w : World) (ts : List PV) (a : Act) (xs : List Operand) : Prop := ∀ x ∈ xs, ∀ p, evalO ts x = some p → VR ρ w p (a.eval x)

theorem EV.of {ρ : Rho} {w : World} {ts : List PV} {a : Act} (hl : LV ρ w ts a.tmps.toList) (xs : List Operand) : EV ρ w ts a xs := fun x _ p h => evalO_VR hl h
theorem EV.sub {ρ : Rho} {w : World} {ts : List PV} {a : Act} {xs ys : List Operand} (h : EV ρ w ts a xs) (hs : ∀ y ∈ ys, y ∈ xs) : EV ρ w ts a ys := fun x hx p hp => h x (hs x hx) p hp

theorem evals_EV {ρ : Rho} {w : World} {ts : List PV} {a : Act} {xs : List Operand} (hl : EV ρ w ts a xs) {ps : List PV} (h : mapO (evalO ts) xs = some ps) : LV ρ w ps (xs.map a.eval) := by
  refine LV_of_get _ _ (by simp [mapO_length h]) fun j c v hj hv => ?_
  obtain ⟨x, hx, hf⟩ := mapO_get h j c hj
  simp [hx] at hv
  subst hv
  exact hl x (List.mem_of_getElem? hx) c hf

theorem ev_parts {ρ : Rho} {w : World} {ts : List PV} {a : Act} {parts : Array (Nat × Operand)} (hl : EV ρ w ts a (parts.toList.map (·.2))) {ps : List (Nat × PV)} (h : mapO (fun (p : Nat × Operand) => (evalO ts p.2).map fun v => (p.1, v)) parts.toList = some ps) :
    ps.length = (parts.map fun (i, x) => (i, a.eval x)).toList.length ∧ ∀ (j : Nat) (p : Nat × PV) (q : Nat × Value), ps[j]? = some p → (parts.map fun (i, x) => (i, a.eval x)).toList[j]? = some q → p.1 = q.1 ∧ VR ρ w p.2 q.2 := by
  refine ⟨by have := mapO_length h; simpa using this, fun j p q hp hq => ?_⟩
  obtain ⟨x, hx, hf⟩ := mapO_get h j p hp
  simp only [Option.map_eq_some_iff] at hf
  obtain ⟨v, hv, rfl⟩ := hf
  have hx' : parts[j]? = some x := by simpa using hx
  have hmem : x.2 ∈ parts.toList.map (·.2) := List.mem_map.2 ⟨x, List.mem_of_getElem? hx, rfl⟩
  simp [hx'] at hq
  subst hq
  exact ⟨rfl, hl _ hmem _ hv⟩

theorem OV_of {ρ : Rho} {w : World} {ts : List PV} {a : Act} {x : Option Operand} (hl : EV ρ w ts a x.toList) {p : Option PV} (h : optO (evalO ts) x = some p) : OV ρ w p (x.map a.eval) ∧ p.isNone = x.isNone ∧ p.isSome = x.isSome := by
  cases x with
  | none => simp [optO] at h; subst h; simp [OV]
  | some x =>
    simp only [optO, Option.map_eq_some_iff] at h
    obtain ⟨v, hv, rfl⟩ := h
    exact ⟨by simp only [OV]; exact ⟨_, rfl, hl x (by simp) _ hv⟩, rfl, rfl⟩

structure OpOut (P : Program) (ρ : Rho) (w : World) (s : Sem Next) (v : PV) (H' : Heap) (wr : Wr) (nx : Next) (val : Value) (w' : World) (ρ' : Rho) : Prop where
  run : s.run P w = .ok nx w'
  form : nx = .value val ∨ (nx = .skip ∧ val = undef)
  rel : HRel ρ' H' w'
  ext : Ext ρ w ρ' w'
  vr : VR ρ' w' v val
  frm : Frm ρ w w' wr

def OpOuts (P : Program) (ρ : Rho) (w : World) (s : Sem Next) (v : PV) (H' : Heap) (wr : Wr) : Prop := ∃ nx val w' ρ', OpOut P ρ w s v H' wr nx val w' ρ'

theorem OpOuts.of {P : Program} {ρ : Rho} {w : World} {s : Sem Value} {v : PV} {H' : Heap} {wr : Wr} (h : Outs P ρ w s v H' wr) : OpOuts P ρ w (do pure (.value (← s))) v H' wr := by
  obtain ⟨val, w', ρ', h⟩ := h
  exact ⟨.value val, val, w', ρ', by simp [h.run], .inl rfl, h.rel, h.ext, h.vr, h.frm⟩

theorem OpOuts.pure {P : Program} {ρ : Rho} {H : Heap} {w : World} {s : Sem Value} {v : PV} (hr : HRel ρ H w) (h : ∃ val, s.run P w = .ok val w ∧ VR ρ w v val) (wr : Wr) : OpOuts P ρ w (do pure (.value (← s))) v H wr := by
  obtain ⟨val, h1, h2⟩ := h
  exact .of (.pure hr h1 h2)

theorem buildSlice_sound {P : Program} {ρ : Rho} {H : Heap} {w : World} (hne : H ≠ []) (hr : HRel ρ H w) {t elem : TypeId} {len sz : Nat} {z : PV} {parts : List (Nat × PV)} {pv : Array (Nat × Value)} {cells : List PV}
    (hu : P.underlying t = some (.slice elem)) (hsz : tsz P elem = some sz) (hz : tzero P elem = some z) (h0 : 0 < sz) (hzl : (cellsOf z).length = sz) (hmax : len * sz ≤ 2 ^ 24)
    (hlen : parts.length = pv.toList.length) (hp : ∀ (j : Nat) (p : Nat × PV) (q : Nat × Value), parts[j]? = some p → pv.toList[j]? = some q → p.1 = q.1 ∧ VR ρ w p.2 q.2)
    (h : fillP (fun i => some (i * sz, sz)) (repl len (cellsOf z)) parts = some cells) (wr : Wr) :
    Outs P ρ w (Instr.buildSlice t len pv) (.sl (curD H) (curN H) 0 0 len sz true) (newO H cells) wr := by
  obtain ⟨i, hi, rfl⟩ := tsz_info hsz
  obtain ⟨zv, hzv, hzc, hzvr, hzt⟩ := zero_size hz hi
  have hzs : zv.cells.size = i.size := hzc.trans hzl
  obtain ⟨hz1, hz2⟩ := VR_cells (hzvr ρ w) hzt
  have hlv := LV_repl hz1 len
  have hall := all_repl hz2 len
  rw [hzs] at hlv hall
  obtain ⟨ov, e1, e2, e3⟩ := fillP_sound _ _ _ _ _ hlv hall hlen hp h
  have hol : cells.length = len * i.size := by
    have : ∀ (parts : List (Nat × PV)) (cs out : List PV), fillP (fun k => some (k * i.size, i.size)) cs parts = some out → out.length = cs.length := by
      intro parts
      induction parts with
      | nil => intro cs out h; simp [fillP] at h; rw [h]
      | cons p parts ih =>
        intro cs out h
        obtain ⟨k, v⟩ := p
        simp only [fillP, Option.bind_some] at h
        split at h
        · rename_i hc; rw [ih _ _ h, splice_length _ _ _ (by omega)]
        · cases h
    rw [this _ _ _ h, repl_length, hzl]
  have hlen2 := LV_length _ _ e2
  simp only [Array.length_toList] at hlen2
  obtain ⟨ρ', r1, r2, r3, r4⟩ := newO_sound (w' := { w with heap := w.heap.push (.cells ov elem) }) hne hr rfl ⟨rfl, rfl, rfl⟩ e2 e3 (by rw [hlen2]; exact List.take_length)
  refine ⟨.slice (some ⟨w.heap.size, 0, none⟩) len len, { w with heap := w.heap.push (.cells ov elem) }, ρ', ?_, r1, r2, VR_sl ⟨_, _, len, r3, rfl, Nat.le_refl _, by omega, fun _ => rfl, fun e => by cases e⟩, r4 wr⟩
  have hm : ¬ (2 ^ 24 < len * i.size) := by omega
  have hm' : ¬ (16777216 < len * i.size) := hm
  by_cases h0' : len * i.size = 0
  · have hr0 : ∀ f : Nat → Value, (Array.range (len * i.size)).map f = #[] := by intro f; rw [h0']; simp [Array.range_zero']
    have hfill : Instr.fill (fun k => some (k * i.size, i.size)) #[] pv.toList = some ov := by rw [← hr0 (fun x => zv.cells[x % i.size]!)]; exact e1
    simp only [Instr.buildSlice, Sem.run_bind, run_underlying hu, Result.andThen_ok, run_sizeOf hsz, gt_iff_lt, hm, if_false, Sem.run_pure, h0', if_true]
    rw [h0'] at hr0
    simp only [hr0, hfill]
    simp [newRow]
  · have e1' : Instr.fill (fun k => some (k * i.size, i.size)) ((Array.range (len * i.size)).map (zv.cells[· % zv.cells.size]!)) pv.toList = some ov := by rw [hzs]; exact e1
    have hzr : (zeroValue elem).run P w = .ok zv w := by simp [zeroValue, typeInfo, hi, hzv]
    simp only [Instr.buildSlice, Sem.run_bind, run_underlying hu, Result.andThen_ok, run_sizeOf hsz, gt_iff_lt, hm, if_false, Sem.run_pure, h0', hzr, e1']
    simp [newRow]

theorem opP_sound {P : Program} {ρ : Rho} {H H' : Heap} {w : World} {ts : List PV} {a : Act} (hne : H ≠ []) (hr : HRel ρ H w) {o : Oper} (hl : EV ρ w ts a o.op.operands.toList) {v : PV} {wr : Wr}
    (h : opP P ts H o.op = some (v, H', wr)) : OpOuts P ρ w (execOp a.eval o) v H' wr := by
  obtain ⟨dst, op, type, pos, after, guard⟩ := o
  simp only at h hl
  unfold opP at h
  unfold execOp
  split at h
  · -- move
    rename_i x
    simp only [Option.map_eq_some_iff, Prod.mk.injEq] at h
    obtain ⟨v', hv, rfl, rfl, rfl⟩ := h
    exact ⟨_, _, w, ρ, rfl, .inl rfl, hr, .refl _ _, hl _ (by simp [Op.operands]) _ hv, .refl _ _ _⟩
  · rename_i x
    simp only [Option.map_eq_some_iff, Prod.mk.injEq] at h
    obtain ⟨v', hv, rfl, rfl, rfl⟩ := h
    exact ⟨_, _, w, ρ, rfl, .inl rfl, hr, .refl _ _, hl _ (by simp [Op.operands]) _ hv, .refl _ _ _⟩
  · -- pick
    rename_i c x y
    simp only [Option.map_eq_some_iff, Prod.mk.injEq, Option.bind_eq_some_iff] at h
    obtain ⟨v', ⟨cv, hc, hv⟩, rfl, rfl, rfl⟩ := h
    have hcv := hl _ (by simp [Op.operands]) _ hc
    split at hv
    · simp only [VR] at hcv
      exact ⟨_, _, w, ρ, by simp [hcv, asBool], .inl rfl, hr, .refl _ _, hl _ (by simp [Op.operands]) _ hv, .refl _ _ _⟩
    · simp only [VR] at hcv
      exact ⟨_, _, w, ρ, by simp [hcv, asBool], .inl rfl, hr, .refl _ _, hl _ (by simp [Op.operands]) _ hv, .refl _ _ _⟩
    · cases hv
  · -- alloc
    rename_i t
    simp only [Option.bind_eq_some_iff] at h
    obtain ⟨z, hz, h⟩ := h
    split at h
    · cases h
    · cases h
      exact .of (alloc_sound hne hr hz [])
  · -- box
    rename_i t x
    simp only [Option.bind_eq_some_iff] at h
    obtain ⟨z, hz, h⟩ := h
    split at h
    · cases h
    · rename_i hc
      cases h
      exact .of (box_sound hne hr (hl _ (by simp [Op.operands]) _ hz) (by simpa using fun e => hc (.inr e)) [])
  · -- build
    rename_i t parts
    simp only [Option.bind_eq_some_iff, Option.map_eq_some_iff, Prod.mk.injEq] at h
    obtain ⟨ps, hps, v', hv, rfl, rfl, rfl⟩ := h
    obtain ⟨h1, h2⟩ := ev_parts (hl.sub (by simp [Op.operands])) hps
    exact .pure hr (buildP_sound h1 h2 hv) []
  · -- buildSlice
    rename_i t len parts
    simp only [Option.bind_eq_some_iff] at h
    obtain ⟨ps, hps, h⟩ := h
    obtain ⟨h1, h2⟩ := ev_parts (hl.sub (by simp [Op.operands])) hps
    split at h
    case h_2 => cases h
    rename_i elem hu
    simp only [Option.bind_eq_some_iff] at h
    obtain ⟨sz, hsz, z, hz, h⟩ := h
    split at h
    case isFalse => cases h
    rename_i hc
    simp only [Option.map_eq_some_iff, Prod.mk.injEq] at h
    obtain ⟨cells, hf, rfl, rfl, rfl⟩ := h
    exact .of (buildSlice_sound hne hr hu hsz hz hc.1 hc.2.1 hc.2.2 h1 h2 hf [])
  · -- load
    rename_i t x
    simp only [Option.map_eq_some_iff, Prod.mk.injEq, Option.bind_eq_some_iff] at h
    obtain ⟨v', ⟨av, ha, hv⟩, rfl, rfl, rfl⟩ := h
    exact .pure hr (loadP_sound hr hv (hl _ (by simp [Op.operands]) _ ha)) []
  · -- store
    rename_i t x y
    simp only [Option.map_eq_some_iff, Option.bind_eq_some_iff] at h
    obtain ⟨av, ha, bv, hb, ⟨H2, wr2⟩, hst, h⟩ := h
    cases h
    obtain ⟨w', e1, e2, e3, e4⟩ := storeP_sound (P := P) hr hst (hl _ (by simp [Op.operands]) _ ha) (hl _ (by simp [Op.operands]) _ hb)
    exact ⟨.skip, undef, w', ρ, by simp [e1], .inr ⟨rfl, rfl⟩, e2, e3, VR_undef _ _, e4⟩
  · -- nilCheck
    rename_i x
    simp only [Option.map_eq_some_iff, Prod.mk.injEq, Option.bind_eq_some_iff] at h
    obtain ⟨v', ⟨av, ha, hv⟩, rfl, rfl, rfl⟩ := h
    have hav := hl _ (by simp [Op.operands]) _ ha
    split at hv
    · cases hv
      have hav' := hav
      simp only [VR] at hav
      obtain ⟨b, n, h1, h2, h3⟩ := hav
      rw [h2] at hav'
      exact ⟨_, _, w, ρ, by simp [h2], .inl rfl, hr, .refl _ _, hav', .refl _ _ _⟩
    · cases hv
      have hav' := hav
      simp only [VR] at hav
      obtain ⟨b, n, h1, h2, h3⟩ := hav
      rw [h1] at hav'
      exact ⟨_, _, w, ρ, by simp [h1], .inl rfl, hr, .refl _ _, hav', .refl _ _ _⟩
    · cases hv
  · -- binOp
    rename_i op t x y yt
    simp only [Option.map_eq_some_iff, Prod.mk.injEq, Option.bind_eq_some_iff] at h
    obtain ⟨v', ⟨av, ha, bv, hb, hv⟩, rfl, rfl, rfl⟩ := h
    exact .pure hr (binOpP_sound hv (hl _ (by simp [Op.operands]) _ ha) (hl _ (by simp [Op.operands]) _ hb)) []
  · -- unOp
    rename_i op t x
    simp only [Option.map_eq_some_iff, Prod.mk.injEq, Option.bind_eq_some_iff] at h
    obtain ⟨v', ⟨av, ha, hv⟩, rfl, rfl, rfl⟩ := h
    exact .pure hr (unOpP_sound hv (hl _ (by simp [Op.operands]) _ ha)) []
  · -- convert
    rename_i s d x
    simp only [Option.map_eq_some_iff, Prod.mk.injEq, Option.bind_eq_some_iff] at h
    obtain ⟨v', ⟨av, ha, hv⟩, rfl, rfl, rfl⟩ := h
    exact .pure hr (convertP_sound hv (hl _ (by simp [Op.operands]) _ ha)) []
  · -- makeFunc
    rename_i f first captured
    split at h
    case isFalse => cases h
    rename_i h0
    simp only [Option.map_eq_some_iff, Prod.mk.injEq] at h
    obtain ⟨v', ⟨c, hc, rfl⟩, rfl, rfl, rfl⟩ := h
    have hcap := evals_EV (hl.sub (by simp [Op.operands]; exact fun y hy => .inr hy)) hc
    have hf0 : first.map a.eval = #[] := by have : first = #[] := Array.eq_empty_of_size_eq_zero h0; simp [this]
    refine ⟨_, _, w, ρ, by simp [Instr.makeFunc]; rfl, .inl rfl, hr, .refl _ _, ?_, .refl _ _ _⟩
    simp only [VR]
    exact ⟨_, by rw [hf0]; congr 1; apply Array.ext'; simp, hcap⟩
  · -- makeSlice
    rename_i t l c
    simp only [Option.map_eq_some_iff, Option.bind_eq_some_iff] at h
    obtain ⟨lv, hlv, cv, hcv, ⟨v', H2⟩, hm, h⟩ := h
    cases h
    exact .of (makeSliceP_sound hne hr [] hm (hl _ (by simp [Op.operands]) _ hlv) (hl _ (by simp [Op.operands]) _ hcv))
  · -- slice
    rename_i t x lo hi mx
    split at h
    case isTrue => cases h
    rename_i hv0
    simp only [Option.map_eq_some_iff, Prod.mk.injEq, Option.bind_eq_some_iff] at h
    obtain ⟨v', ⟨av, ha, lo', hlo, hi', hhi, mx', hmx, hv⟩, rfl, rfl, rfl⟩ := h
    obtain ⟨o1, _, _⟩ := OV_of (hl.sub (by intro y hy; simp [Op.operands] at hy ⊢; simp [hy])) hlo
    obtain ⟨o2, n2, _⟩ := OV_of (hl.sub (by intro y hy; simp [Op.operands] at hy ⊢; simp [hy])) hhi
    obtain ⟨o3, _, n3⟩ := OV_of (hl.sub (by intro y hy; simp [Op.operands] at hy ⊢; simp [hy])) hmx
    exact .pure hr (sliceP_sound hr hv (hl _ (by simp [Op.operands]) _ ha) o1 o2 o3 (by rw [n2, n3]; exact hv0)) []
  · -- fieldAddr
    rename_i s x f
    simp only [Option.map_eq_some_iff, Prod.mk.injEq, Option.bind_eq_some_iff] at h
    obtain ⟨v', ⟨av, ha, hv⟩, rfl, rfl, rfl⟩ := h
    exact .pure hr (fieldAddrP_sound hv (hl _ (by simp [Op.operands]) _ ha)) []
  · -- field
    rename_i s x f
    simp only [Option.map_eq_some_iff, Prod.mk.injEq, Option.bind_eq_some_iff] at h
    obtain ⟨v', ⟨av, ha, hv⟩, rfl, rfl, rfl⟩ := h
    exact .pure hr (fieldP_sound hv (hl _ (by simp [Op.operands]) _ ha)) []
  · -- indexAddr
    rename_i t x i
    simp only [Option.map_eq_some_iff, Prod.mk.injEq, Option.bind_eq_some_iff] at h
    obtain ⟨v', ⟨av, ha, bv, hb, hv⟩, rfl, rfl, rfl⟩ := h
    exact .pure hr (indexAddrP_sound hv (hl _ (by simp [Op.operands]) _ ha) (hl _ (by simp [Op.operands]) _ hb)) []
  · -- index
    rename_i t x i
    simp only [Option.map_eq_some_iff, Prod.mk.injEq, Option.bind_eq_some_iff] at h
    obtain ⟨v', ⟨av, ha, bv, hb, hv⟩, rfl, rfl, rfl⟩ := h
    exact .pure hr (indexP_sound hv (hl _ (by simp [Op.operands]) _ ha) (hl _ (by simp [Op.operands]) _ hb)) []
  · -- extract
    rename_i x i
    simp only [Option.map_eq_some_iff, Prod.mk.injEq, Option.bind_eq_some_iff] at h
    obtain ⟨v', ⟨av, ha, hv⟩, rfl, rfl, rfl⟩ := h
    have hav := hl _ (by simp [Op.operands]) _ ha
    split at hv
    · simp only [VR] at hav
      obtain ⟨vs, h1, h2⟩ := hav
      obtain ⟨u, h3, h4⟩ := LV_get _ _ h2 _ _ hv
      exact .pure hr ⟨u, by simp [Instr.extract, h1, h3], h4⟩ []
    · cases hv
  · -- builtins
    rename_i b args argTypes
    simp only [Option.bind_eq_some_iff] at h
    obtain ⟨as, has, h⟩ := h
    have hlv := evals_EV (hl.sub (by simp [Op.operands, Call.operands])) has
    have hargs : args.map a.eval = (args.toList.map a.eval).toArray := by apply Array.ext'; simp
    generalize hvs : args.toList.map a.eval = vs at hlv hargs
    have hres : ∀ {β : Type} (k : Deferred → Sem β), (resolve a.eval { callee := .builtin b, args, argTypes } type >>= k) = k { target := .builtin b argTypes type (args.map fun | .const _ => true | _ => false), args := vs.toArray } := by
      intro β k; simp only [resolve, hargs]; rfl
    simp only [hres, invoke]
    split at h
    · rename_i x
      simp only [LV] at hlv
      obtain ⟨xv, vs', rfl, hx, rfl⟩ := hlv
      simp only [Option.bind_eq_some_iff, Option.map_eq_some_iff, Prod.mk.injEq] at h
      obtain ⟨t, ht, v', hv, rfl, rfl, rfl⟩ := h
      exact .pure hr (lenP_sound ht hv hx) []
    · rename_i x y
      simp only [LV] at hlv
      obtain ⟨xv, vs', rfl, hx, yv, vs'', rfl, hy, rfl⟩ := hlv
      simp only [Option.bind_eq_some_iff] at h
      obtain ⟨t, ht, t2, ht2, h⟩ := h
      have happ : Builtin.append_ argTypes type [xv, yv].toArray = Builtin.append_ #[t, t2] type #[xv, yv] := by simp [Builtin.append_, ht, ht2]
      have := OpOuts.of (appendP_sound (P := P) (ty := type) hne hr h hx hy)
      rw [← happ] at this
      exact this
    · rename_i x y
      simp only [LV] at hlv
      obtain ⟨xv, vs', rfl, hx, yv, vs'', rfl, hy, rfl⟩ := hlv
      simp only [Option.bind_eq_some_iff] at h
      obtain ⟨t, ht, h⟩ := h
      exact .of (copyP_sound hr ht h hx hy)
    · simp only [Option.map_eq_some_iff, Prod.mk.injEq] at h
      obtain ⟨v', hv, rfl, rfl, rfl⟩ := h
      exact .pure (s := Builtin.min_ argTypes type vs.toArray) hr (minMaxP_sound (P := P) (mx := false) hlv hv argTypes type) []
    · simp only [Option.map_eq_some_iff, Prod.mk.injEq] at h
      obtain ⟨v', hv, rfl, rfl, rfl⟩ := h
      exact .pure (s := Builtin.max_ argTypes type vs.toArray) hr (minMaxP_sound (P := P) (mx := true) hlv hv argTypes type) []
    · cases h
  · cases h

end Go.Proofs.YtbcmiddffckgmaaDoor.Am
