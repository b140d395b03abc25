/- Structs that are built, numbers, comparisons; then: each operation. -/
import Derived.Test.YtbcmiddffckgmaaDoorAm6
import Derived.Laws.StructEq
set_option linter.unusedVariables false
set_option linter.unusedSimpArgs false
set_option linter.unnecessarySimpa false
namespace Go.Proofs.YtbcmiddffckgmaaDoor.Am
open Go

theorem foldl_set (off : Nat) : ∀ (l : List Value) (k : Nat) (arr : Array Value), off + k + l.length ≤ arr.size →
    ((l.zipIdx k).foldl (fun cs (p : Value × Nat) => cs.setIfInBounds (off + p.2) p.1) arr).size = arr.size ∧
    ∀ j, ((l.zipIdx k).foldl (fun cs (p : Value × Nat) => cs.setIfInBounds (off + p.2) p.1) arr)[j]? = if off + k ≤ j ∧ j < off + k + l.length then l[j - (off + k)]? else arr[j]?
  | [], k, arr, h => by simp; intro j h1 h2; omega
  | v :: l, k, arr, h => by
    simp only [List.zipIdx_cons, List.foldl_cons, List.length_cons] at h ⊢
    obtain ⟨h1, h2⟩ := foldl_set off l (k + 1) (arr.setIfInBounds (off + k) v) (by simp; omega)
    refine ⟨by rw [h1]; simp, fun j => ?_⟩
    rw [h2 j]
    by_cases e1 : off + (k + 1) ≤ j ∧ j < off + (k + 1) + l.length
    · rw [if_pos e1, if_pos (by omega), show j - (off + k) = (j - (off + (k + 1))) + 1 by omega, List.getElem?_cons_succ]
    · rw [if_neg e1]
      by_cases e2 : j = off + k
      · rw [if_pos (by omega), e2, Nat.sub_self, List.getElem?_cons_zero, Array.getElem?_setIfInBounds_self_of_lt (by omega)]
      · rw [if_neg (by omega), Array.getElem?_setIfInBounds_ne (by omega)]

theorem fold_toList {off : Nat} {vs : Array Value} {arr : Array Value} (h : off + vs.size ≤ arr.size) :
    (vs.zipIdx.foldl (fun cs (p : Value × Nat) => cs.setIfInBounds (off + p.2) p.1) arr).toList = arr.toList.take off ++ vs.toList ++ arr.toList.drop (off + vs.size) := by
  have hz : vs.zipIdx.foldl (fun cs (p : Value × Nat) => cs.setIfInBounds (off + p.2) p.1) arr = (vs.toList.zipIdx 0).foldl (fun cs (p : Value × Nat) => cs.setIfInBounds (off + p.2) p.1) arr := by
    rw [← Array.foldl_toList]; simp
  rw [hz]
  obtain ⟨h1, h2⟩ := foldl_set off vs.toList 0 arr (by simpa using h)
  apply List.ext_getElem?
  intro j
  have := seg_get arr.toList vs.toList off j (by simpa using h)
  simp only [Array.length_toList] at this
  rw [this]
  have h3 := h2 j
  simp only [Nat.add_zero, Array.length_toList] at h3
  rw [Array.getElem?_toList, h3]
  simp

theorem fillP_sound {ρ : Rho} {w : World} {place : Nat → Option (Nat × Nat)} : ∀ (parts : List (Nat × PV)) (pv : List (Nat × Value)) (cells : List PV) (cv : Array Value) (out : List PV),
    LV ρ w cells cv.toList → (∀ u ∈ cv.toList, u.oneCell' = true) → parts.length = pv.length →
    (∀ (j : Nat) (p : Nat × PV) (q : Nat × Value), parts[j]? = some p → pv[j]? = some q → p.1 = q.1 ∧ VR ρ w p.2 q.2) → fillP place cells parts = some out →
    ∃ ov, Instr.fill place cv pv = some ov ∧ LV ρ w out ov.toList ∧ ∀ u ∈ ov.toList, u.oneCell' = true
  | [], [], cells, cv, out, hl, h1, _, _, h => by
    simp only [fillP, Option.some.injEq] at h; subst h
    exact ⟨cv, by simp [Instr.fill], hl, h1⟩
  | [], _ :: _, _, _, _, _, _, h, _, _ => by simp at h
  | _ :: _, [], _, _, _, _, _, h, _, _ => by simp at h
  | (i, v) :: parts, (i', u) :: pv, cells, cv, out, hl, h1, hlen, hp, h => by
    obtain ⟨hi, hv⟩ := hp 0 (i, v) (i', u) (by simp) (by simp)
    simp only at hi hv
    subst hi
    simp only [fillP, Option.bind_eq_some_iff] at h
    obtain ⟨⟨off, size⟩, hpl, h⟩ := h
    simp only at h
    split at h
    case isFalse => cases h
    rename_i hc
    obtain ⟨hc1, hc2, hc3⟩ := hc
    obtain ⟨hlv, hone⟩ := VR_cells hv hc3
    have hlen2 := LV_length _ _ hlv
    have hlen1 := LV_length _ _ hl
    simp only [Array.length_toList] at hlen2 hlen1
    have hft := fold_toList (off := off) (vs := u.cells) (arr := cv) (by omega)
    have hl' : LV ρ w (splice cells off (cellsOf v)) (u.cells.zipIdx.foldl (fun cs (p : Value × Nat) => cs.setIfInBounds (off + p.2) p.1) cv).toList := by
      rw [hft]
      unfold splice
      rw [← hlen2]
      exact LV_append _ _ _ _ (LV_append _ _ _ _ (LV_take hl _) hlv) (LV_drop hl _)
    have h1' : ∀ x ∈ (u.cells.zipIdx.foldl (fun cs (p : Value × Nat) => cs.setIfInBounds (off + p.2) p.1) cv).toList, x.oneCell' = true := by
      rw [hft]
      intro x hx
      rcases List.mem_append.1 hx with hx | hx
      · rcases List.mem_append.1 hx with hx | hx
        · exact h1 x (List.mem_of_mem_take hx)
        · exact hone x hx
      · exact h1 x (List.mem_of_mem_drop hx)
    obtain ⟨ov, e1, e2, e3⟩ := fillP_sound parts pv _ _ out hl' h1' (by simpa using hlen) (fun j p q a b => hp (j + 1) p q (by simpa using a) (by simpa using b)) h
    refine ⟨ov, ?_, e2, e3⟩
    simp only [Instr.fill, hpl]
    rw [if_neg]
    · exact e1
    · simp; omega

theorem places_ok {P : Program} : ∀ (fs : List Field), (fs.all fun f => (tsz P f.type).isSome) = true → ∃ places, fs.mapM (fun f => (P.info? f.type).map fun i => (f.offset, i.size)) = some places ∧ places.length = fs.length ∧
    ∀ (i : Nat), places[i]? = (fs[i]?).bind fun f => (tsz P f.type).map fun s => (f.offset, s)
  | [], _ => ⟨[], by simp, rfl, by simp⟩
  | f :: fs, h => by
    simp only [List.all_cons, Bool.and_eq_true] at h
    obtain ⟨places, h1, h2, h3⟩ := places_ok fs h.2
    obtain ⟨sz, hsz⟩ := Option.isSome_iff_exists.1 h.1
    obtain ⟨i, hi, rfl⟩ := tsz_info hsz
    refine ⟨(f.offset, i.size) :: places, by simp [List.mapM_cons, hi, h1], by simp [h2], fun j => ?_⟩
    cases j with
    | zero => simp [hsz]
    | succ j => simpa using h3 j

theorem buildP_sound {P : Program} {ρ : Rho} {w : World} {t : TypeId} {parts : List (Nat × PV)} {pv : Array (Nat × Value)} {v : PV} (hlen : parts.length = pv.toList.length)
    (hp : ∀ (j : Nat) (p : Nat × PV) (q : Nat × Value), parts[j]? = some p → pv.toList[j]? = some q → p.1 = q.1 ∧ VR ρ w p.2 q.2) (h : buildP P t parts = some v) :
    ∃ val, (Instr.build t pv).run P w = .ok val w ∧ VR ρ w v val := by
  unfold buildP at h
  simp only [Option.bind_eq_some_iff] at h
  obtain ⟨z, hz, h⟩ := h
  obtain ⟨it, zv0, hit, hzv0, _⟩ := tzero_info hz
  obtain ⟨zv, hzv, hzc, hzvr, hzt⟩ := zero_size hz hit
  obtain ⟨hz1, hz2⟩ := VR_cells (hzvr ρ w) hzt
  split at h
  · rename_i fields hu
    split at h
    case isFalse => cases h
    rename_i hall
    simp only [Option.map_eq_some_iff] at h
    obtain ⟨out, hf, rfl⟩ := h
    obtain ⟨places, h1, h2, h3⟩ := places_ok _ hall
    have hfp : (fun i => places.toArray[i]?) = fieldPlaces P fields := by
      funext i
      simp only [fieldPlaces]
      have := h3 i
      simpa using this
    obtain ⟨ov, e1, e2, e3⟩ := fillP_sound _ _ _ _ _ hz1 hz2 hlen hp hf
    have hb : P.built t pv.toList = some ov := by
      simp only [Program.built, hit, hu, hzv, h1]
      rw [hfp]; exact e1
    exact ⟨.agg ov, run_build w t pv ov hb, by simp only [VR]; exact ⟨ov.toList, by simp, e3, e2⟩⟩
  · rename_i n elem hu
    simp only [Option.bind_eq_some_iff] at h
    obtain ⟨size, hsz, h⟩ := h
    simp only [Option.map_eq_some_iff] at h
    obtain ⟨out, hf, rfl⟩ := h
    obtain ⟨ie, hie, rfl⟩ := tsz_info hsz
    obtain ⟨ov, e1, e2, e3⟩ := fillP_sound _ _ _ _ _ hz1 hz2 hlen hp hf
    have hb : P.built t pv.toList = some ov := by
      simp only [Program.built, hit, hu, hzv, hie]
      exact e1
    exact ⟨.agg ov, run_build w t pv ov hb, by simp only [VR]; exact ⟨ov.toList, by simp, e3, e2⟩⟩
  · cases h

theorem eqC_sound {P : Program} {ρ : Rho} {w : World} : ∀ (d : Nat) (t : TypeId) (x y : PV) (xv yv : Value) (r : Bool), eqC P d t x y = some r → VR ρ w x xv → VR ρ w y yv → (Op.equalIn d t xv yv).run P w = .ok r w := by
  intro d
  induction d with
  | zero => intro t x y xv yv r h; simp [eqC] at h
  | succ d ih =>
    intro t x y xv yv r h hx hy
    simp only [eqC] at h
    split at h
    · rename_i a b hu; cases h; simp only [VR] at hx hy; subst hx; subst hy; simp [Op.equalIn, run_underlying hu]
    · rename_i kk k a k' b hu
      split at h
      · rename_i hk; cases h; simp only [VR] at hx hy; subst hx; subst hy; simp [Op.equalIn, run_underlying hu, hk]
      · cases h
    · rename_i a b hu; cases h; simp only [VR] at hx hy; subst hx; subst hy; simp [Op.equalIn, run_underlying hu, beq_toListBytes]
    · rename_i e hu; cases h; simp only [VR] at hx hy; subst hx; subst hy; simp [Op.equalIn, run_underlying hu]
    · rename_i e _ _ _ _ _ hu; cases h; simp only [VR] at hx hy; subst hx; obtain ⟨b, n, _, rfl, _⟩ := hy; simp [Op.equalIn, run_underlying hu]
    · rename_i e _ _ _ _ _ hu; cases h; simp only [VR] at hx hy; subst hy; obtain ⟨b, n, _, rfl, _⟩ := hx; simp [Op.equalIn, run_underlying hu]
    · rename_i e hu; cases h; simp only [VR] at hx hy; subst hx; subst hy; simp [Op.equalIn, run_underlying hu]
    · rename_i e _ _ _ _ _ _ _ hu; cases h; simp only [VR] at hx hy; subst hx; obtain ⟨b, n, cap, _, rfl, _⟩ := hy; simp [Op.equalIn, run_underlying hu]
    · rename_i e _ _ hu; cases h; simp only [VR] at hx hy; subst hx; obtain ⟨a, cap, rfl, _⟩ := hy; simp [Op.equalIn, run_underlying hu]
    · rename_i e _ _ _ _ _ _ _ hu; cases h; simp only [VR] at hx hy; subst hy; obtain ⟨b, n, cap, _, rfl, _⟩ := hx; simp [Op.equalIn, run_underlying hu]
    · rename_i e _ _ hu; cases h; simp only [VR] at hx hy; subst hy; obtain ⟨a, cap, rfl, _⟩ := hx; simp [Op.equalIn, run_underlying hu]
    · rename_i hu; cases h; simp only [VR] at hx hy; subst hx; subst hy; simp [Op.equalIn, run_underlying hu]
    · rename_i hu; cases h; simp only [VR] at hx hy; subst hx; obtain ⟨vs, rfl, _⟩ := hy; simp [Op.equalIn, run_underlying hu]
    · rename_i hu; cases h; simp only [VR] at hx hy; subst hy; obtain ⟨vs, rfl, _⟩ := hx; simp [Op.equalIn, run_underlying hu]
    · rename_i fields xs ys hu
      split at h
      · cases h
      rename_i hst
      simp only [VR] at hx hy
      obtain ⟨xvs, rfl, hx1, hx2⟩ := hx
      obtain ⟨yvs, rfl, hy1, hy2⟩ := hy
      have hf : P.fieldsOf t = fields := by simp [Program.fieldsOf, hu]
      rw [run_equalIn_struct w d t _ _ (by rw [hf]; exact hu) (by simpa using hst), hf]
      generalize fields.toList = fs at h
      clear hf hu
      induction fs generalizing r with
      | nil => simp only [eqC.eqFields, Option.some.injEq] at h; subst h; simp [Op.eqFields]
      | cons f fs ihf =>
        simp only [eqC.eqFields] at h
        split at h
        · rename_i hn
          simp only [Op.eqFields, hn, ne_eq, not_true, if_false]
          exact ihf r h
        · rename_i hn
          simp only [Option.bind_eq_some_iff] at h
          obtain ⟨a, ha, b, hb, q, hq, h⟩ := h
          obtain ⟨av, a1, a2⟩ := partP_sound (P := P) ha hx2 hx1
          obtain ⟨bv, b1, b2⟩ := partP_sound (P := P) hb hy2 hy1
          have hqq := ih f.type a b av bv q hq a2 b2
          simp only [Op.eqFields, ne_eq, hn, not_false_eq_true, if_true, Sem.run_bind, a1, b1, hqq, Result.andThen_ok]
          cases q with
          | true => simp at h; simpa using ihf r h
          | false => simp at h; subst h; simp
    · cases h

theorem intOp_sound {P : Program} {w : World} {op : BinOp} {k : IntKind} {a b : Int} {v : PV} {t : TypeId} (hop : op ≠ .shl ∧ op ≠ .shr) (h : intOp op k a b = some v) (ρ : Rho) :
    ∃ val, (binOp op t (.int k a) (.int k b)).run P w = .ok val w ∧ VR ρ w v val := by
  cases op <;> simp only [intOp, bitsP] at h <;> first
    | (cases h; exact ⟨_, by simp [binOp, Op.intArith, Op.intCmp, Op.intBits]; rfl, by simp [VR]⟩)
    | (split at h; · cases h
       rename_i hb; cases h; exact ⟨_, by simp [binOp, Op.intDiv, hb]; rfl, by simp [VR]⟩)
    | exact absurd rfl hop.1
    | exact absurd rfl hop.2
    | cases h

theorem shiftP_sound {P : Program} {w : World} {op : BinOp} {k k' : IntKind} {a b : Int} {v : PV} {t : TypeId} (hop : op = .shl ∨ op = .shr) (h : shiftP op k a b = some v) (ρ : Rho) :
    ∃ val, (binOp op t (.int k a) (.int k' b)).run P w = .ok val w ∧ VR ρ w v val := by
  unfold shiftP at h
  split at h
  · cases h
  rename_i hb
  rcases hop with rfl | rfl <;> simp only [Option.some.injEq] at h <;> subst h <;> exact ⟨_, by simp [binOp, Op.shift, hb]; rfl, by simp [VR]⟩

theorem strOp_sound {P : Program} {w : World} {op : BinOp} {a b : ByteArray} {v : PV} {t : TypeId} (h : strOp op a b = some v) (ρ : Rho) :
    ∃ val, (binOp op t (.string a) (.string b)).run P w = .ok val w ∧ VR ρ w v val := by
  cases op <;> simp only [strOp] at h <;> first
    | (cases h; exact ⟨_, by simp [binOp, Op.stringOp]; rfl, by simp [VR]⟩)
    | (split at h
       · rename_i hs
         cases h
         have hs' : ¬ (IntKind.i64.max < ((a.size + b.size : Nat) : Int)) := by
           simp only [maxL] at hs
           have : IntKind.i64.max = 9223372036854775807 := by decide
           rw [this]; omega
         refine ⟨.string (a ++ b), ?_, by simp [VR]⟩
         simp only [binOp, Op.stringOp, gt_iff_lt, hs', if_false]
         rfl
       · cases h)
    | cases h

theorem eqGuard_pass {P : Program} {w : World} {op : BinOp} {t : TypeId} {x y : Operand} {a b : Value} {p q : PV} {ρ : Rho} (ha : VR ρ w p a) (hb : VR ρ w q b) (hg : (op = .eql ∨ op = .neq) → P.eqGuardType P.depth t = false ∨ (∃ k n, p = .int k n) ∨ (∃ s, p = .str s)) (hni : p ≠ .nili) :
    (eqGuard op t x y a b).run P w = .ok () w := by
  by_cases hop : op = .eql ∨ op = .neq
  · rcases hg hop with hgf | ⟨k, n, rfl⟩ | ⟨s, rfl⟩
    · have hne : a ≠ .nilIface := by
        rintro rfl
        cases p <;> simp [VR] at ha
        exact hni rfl
      rcases hop with rfl | rfl <;> cases a <;> first
        | exact absurd rfl hne
        | (simp [eqGuard]; done)
        | (cases b <;> simp [eqGuard, run_program, hgf])
    · simp only [VR] at ha; subst ha; rcases hop with rfl | rfl <;> simp [eqGuard]
    · simp only [VR] at ha; subst ha; rcases hop with rfl | rfl <;> simp [eqGuard]
  · cases op <;> first | (simp at hop; done) | simp [eqGuard]

theorem eqC_nili {P : Program} {d : Nat} {t : TypeId} {y : PV} : eqC P d t .nili y = none := by
  cases d with
  | zero => rfl
  | succ d => simp only [eqC]; split <;> first | rfl | (rename_i h _; cases h) | simp_all

theorem eql_form {P : Program} {ρ : Rho} {w : World} {d : Nat} {t : TypeId} {x y : PV} {xv yv : Value} {r : Bool} (h : eqC P (d + 1) t x y = some r) (hx : VR ρ w x xv) (hy : VR ρ w y yv)
    (h1 : ∀ k a k' b, x = .int k a → y = .int k' b → False) (h2 : ∀ a b, x = .str a → y = .str b → False) :
    binOp .eql t xv yv = (do pure (.bool (← Op.equal t xv yv))) ∧ binOp .neq t xv yv = (do pure (.bool (!(← Op.equal t xv yv)))) := by
  simp only [eqC] at h
  split at h
  · simp only [VR] at hx hy; subst hx; subst hy; exact ⟨rfl, rfl⟩
  · exact (h1 _ _ _ _ rfl rfl).elim
  · exact (h2 _ _ rfl rfl).elim
  · simp only [VR] at hx hy; subst hx; subst hy; exact ⟨rfl, rfl⟩
  · simp only [VR] at hx hy; subst hx; obtain ⟨b, n, _, rfl, _⟩ := hy; exact ⟨rfl, rfl⟩
  · simp only [VR] at hx hy; subst hy; obtain ⟨b, n, _, rfl, _⟩ := hx; exact ⟨rfl, rfl⟩
  · simp only [VR] at hx hy; subst hx; subst hy; exact ⟨rfl, rfl⟩
  · simp only [VR] at hx hy; subst hx; obtain ⟨b, n, cap, _, rfl, _⟩ := hy; exact ⟨rfl, rfl⟩
  · simp only [VR] at hx hy; subst hx; obtain ⟨a, cap, rfl, _⟩ := hy; exact ⟨rfl, rfl⟩
  · simp only [VR] at hx hy; subst hy; obtain ⟨b, n, cap, _, rfl, _⟩ := hx; exact ⟨rfl, rfl⟩
  · simp only [VR] at hx hy; subst hy; obtain ⟨a, cap, rfl, _⟩ := hx; exact ⟨rfl, rfl⟩
  · simp only [VR] at hx hy; subst hx; subst hy; exact ⟨rfl, rfl⟩
  · simp only [VR] at hx hy; subst hx; obtain ⟨vs, rfl, _⟩ := hy; exact ⟨rfl, rfl⟩
  · simp only [VR] at hx hy; subst hy; obtain ⟨vs, rfl, _⟩ := hx; exact ⟨rfl, rfl⟩
  · simp only [VR] at hx hy; obtain ⟨xvs, rfl, _⟩ := hx; obtain ⟨yvs, rfl, _⟩ := hy; exact ⟨rfl, rfl⟩
  · cases h

theorem binOpP_sound {P : Program} {ρ : Rho} {w : World} {op : BinOp} {t : TypeId} {x y v : PV} {xv yv : Value} {xo yo : Operand} (h : binOpP P op t x y = some v) (hx : VR ρ w x xv) (hy : VR ρ w y yv) :
    ∃ val, (do eqGuard op t xo yo xv yv; binOp op t xv yv : Sem Value).run P w = .ok val w ∧ VR ρ w v val := by
  unfold binOpP at h
  split at h
  · rename_i k a k' b
    have hg := eqGuard_pass (P := P) (op := op) (t := t) (x := xo) (y := yo) hx hy (fun _ => .inr (.inl ⟨_, _, rfl⟩)) (by simp)
    simp only [VR] at hx hy
    subst hx; subst hy
    simp only [Sem.run_bind, hg, Result.andThen_ok]
    split at h
    · exact shiftP_sound (.inl rfl) h ρ
    · exact shiftP_sound (.inr rfl) h ρ
    · split at h
      · rename_i h1 h2 hk
        subst hk
        exact intOp_sound ⟨fun e => h1 e, fun e => h2 e⟩ h ρ
      · cases h
  · rename_i a b
    have hg := eqGuard_pass (P := P) (op := op) (t := t) (x := xo) (y := yo) hx hy (fun _ => .inr (.inr ⟨_, rfl⟩)) (by simp)
    simp only [VR] at hx hy
    subst hx; subst hy
    simp only [Sem.run_bind, hg, Result.andThen_ok]
    exact strOp_sound h ρ
  · rename_i hni1 hni2
    split at h
    · split at h
      · cases h
      rename_i hgt
      simp only [Option.map_eq_some_iff] at h
      obtain ⟨r, hr, rfl⟩ := h
      have hg := eqGuard_pass (P := P) (op := .eql) (t := t) (x := xo) (y := yo) hx hy (fun _ => .inl (by simpa using hgt)) (by rintro rfl; rw [eqC_nili] at hr; cases hr)
      have he := eqC_sound _ _ _ _ _ _ _ hr hx hy
      obtain ⟨f1, f2⟩ := eql_form (d := 9999) hr hx hy (fun k a k' b e1 e2 => hni1 k a k' b e1 e2) (fun a b e1 e2 => hni2 a b e1 e2)
      refine ⟨.bool r, ?_, by simp [VR]⟩
      simp only [Sem.run_bind, hg, Result.andThen_ok, f1, Op.equal, he, Sem.run_pure]
    · split at h
      · cases h
      rename_i hgt
      simp only [Option.map_eq_some_iff] at h
      obtain ⟨r, hr, rfl⟩ := h
      have hg := eqGuard_pass (P := P) (op := .neq) (t := t) (x := xo) (y := yo) hx hy (fun _ => .inl (by simpa using hgt)) (by rintro rfl; rw [eqC_nili] at hr; cases hr)
      have he := eqC_sound _ _ _ _ _ _ _ hr hx hy
      obtain ⟨f1, f2⟩ := eql_form (d := 9999) hr hx hy (fun k a k' b e1 e2 => hni1 k a k' b e1 e2) (fun a b e1 e2 => hni2 a b e1 e2)
      refine ⟨.bool (!r), ?_, by simp [VR]⟩
      simp only [Sem.run_bind, hg, Result.andThen_ok, f2, Op.equal, he, Sem.run_pure]
    · cases h

end Go.Proofs.YtbcmiddffckgmaaDoor.Am
