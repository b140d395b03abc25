/- The abstract machine: the calculus, step by step. -/
import Derived.Test.YtbcmiddffckgmaaDoorAm17
set_option linter.unusedVariables false
set_option linter.unusedSimpArgs false
set_option linter.unnecessarySimpa false
namespace Go.Proofs.YtbcmiddffckgmaaDoor.Am
open Go

/-- What simp is to leave alone. -/
structure Hold.{u} {α : Sort u} (a : α) : Type where
  mk ::
def WRl (C : Cfg) (m hd : Nat) (ops : Array Oper) : Nat → List Oper → St → (St → Prop) → Prop
  | _, [], st, Q => Q st
  | j, o :: l, st, Q =>
    if wantedP o ops st.ts = true then WS C st.ts st.H o.op fun v H' d => (j < hd → d = []) ∧ WRl C m hd ops (j + 1) l ⟨putP st.ts o.dst v, H', addWs (curD st.H) m st.wr d⟩ Q
    else WRl C m hd ops (j + 1) l ⟨putP st.ts o.dst undefP, st.H, st.wr⟩ Q

theorem WRl_eq {C : Cfg} {m hd ops Q} : ∀ (l : List Oper) (j : Nat) (st : St), ops.toList.drop j = l →
    WO C m hd ops (List.range' j l.length) st Q = WRl C m hd ops j l st Q
  | [], j, st, _ => by rw [List.length_nil, List.range'_zero, WO_nil]; rfl
  | o :: l, j, ⟨ts, H, wr⟩, hl => by
    have ho : ops[j]? = some o := by
      have := congrArg (·[0]?) hl
      simpa using this
    have hl' : ops.toList.drop (j + 1) = l := by
      have := congrArg List.tail hl
      simpa using this
    rw [List.length_cons, List.range'_succ, WO_cons ho, WRl]
    simp only [WRl_eq l (j + 1) _ hl']

theorem W_region' {C m st Q i ops draw} (hd : (draw && !dOk ops) = false) : W C m (.region i ops draw) st Q =
    WRl C m (bif draw then dHd ops else 0) ops 0 ops.toList st fun s => Q .norm s := by
  rw [W_region, ← WRl_eq ops.toList 0 st rfl]
  simp [hd, WR]

theorem W_drawn {C m st Q i} {ops : Array Oper} {n} (hd : (dOk ops, dHd ops) = (true, n)) :
    W C m (.region i ops true) st Q = WRl C m n ops 0 ops.toList st fun s => Q .norm s := by
  have h1 := congrArg Prod.fst hd
  have h2 := congrArg Prod.snd hd
  simp only at h1 h2
  rw [W_region' (by simp [h1])]
  simp [h2]

theorem W_reg {C m st Q i} {l : List Oper} :
    W C m (.region i l.toArray false) st Q = WRl C m 0 l.toArray 0 l st fun s => Q .norm s := by
  rw [W_region' rfl]; rfl

/-- A branch on a truth value. -/
def Br (b : Bool) (A B : Prop) (_ : Hold A) (_ : Hold B) : Prop := if b = true then A else B
theorem Br_true {A B : Prop} {t t'} : Br true A B t t' = A := rfl
theorem Br_false {A B : Prop} {t t'} : Br false A B t t' = B := by simp [Br]
theorem Br_intro {b : Bool} {A B : Prop} {t t'} (ha : b = true → A) (hb : b = false → B) : Br b A B t t' := by
  cases b
  · exact hb rfl
  · exact ha rfl
def BrH (x : Option PV) (A B : Prop) (_ : Hold A) (_ : Hold B) : Prop := BrP x A B
theorem BrH_Br {b : Bool} {A B : Prop} {t t'} : BrH (some (.bool b)) A B t t' = Br b A B t t' := BrP_some
def thenH (e : Ctl) (A B : Prop) (_ : Hold A) (_ : Hold B) : Prop := thenP e A B
theorem thenH_norm {A B : Prop} {t t'} : thenH .norm A B t t' = A := rfl
theorem thenH_exit {j : Nat} {A B : Prop} {t t'} : thenH (.exit j) A B t t' = B := rfl
theorem thenH_ret {A B : Prop} {t t'} : thenH .ret A B t t' = B := rfl
theorem blk_norm {id : Nat} : blk id .norm = .norm := rfl
theorem blk_ret {id : Nat} : blk id .ret = .ret := rfl
theorem blk_exit {id j : Nat} : blk id (.exit j) = if j = id then .norm else .exit j := rfl
theorem W_seqH {C m st Q a b} : W C m (.seq a b) st Q = W C m a st fun e s => thenH e (W C m b s Q) (Q e s) ⟨⟩ ⟨⟩ := W_seq
theorem W_condH {C m st Q o a b} : W C m (.cond o a b) st Q = BrH (evalO st.ts o) (W C m a st Q) (W C m b st Q) ⟨⟩ ⟨⟩ := W_cond
/-- A loop, left alone. -/
def WL (C : Cfg) (m : Nat) (b : Code) (st : St) (Q : Ctl → St → Prop) (_ : Hold b) (_ : Hold Q) : Prop := W C m (.loop b) st Q
theorem W_loopH {C m st Q b} : W C m (.loop b) st Q = WL C m b st Q ⟨⟩ ⟨⟩ := rfl

def gval (ops : Array Oper) (g : Nat) (ts : List PV) : Option PV := ((ops[g]?).bind (·.dst)).bind fun t => ts[t]?
/-- Is a guarded operation done? -/
def GB (x : Option PV) (want : Bool) (A B : Prop) (_ : Hold A) (_ : Hold B) : Prop := match x with
  | some (.bool b) => if (b == want) = true then A else B
  | _ => B
theorem GB_t {b : Bool} {A B : Prop} {t t'} : GB (some (.bool b)) true A B t t' = Br b A B t t' := by cases b <;> rfl
theorem GB_f {b : Bool} {A B : Prop} {t t'} : GB (some (.bool b)) false A B t t' = Br b B A t' t := by cases b <;> rfl
theorem GB_u {w : Bool} {A B : Prop} {t t'} : GB (some undefP) w A B t t' = B := rfl
theorem gval_lit {l : List Oper} {g ts} : gval l.toArray g ts = ((l[g]?).bind (·.dst)).bind fun t => ts[t]? := by simp [gval]

/-- In a region's head nothing is written. -/
def HdP (j hd : Nat) (d : Wr) (A : Prop) (_ : Hold A) : Prop := (j < hd → d = []) ∧ A
/-- The rest of a region; simp looks at the state. -/
def WRh (C : Cfg) (m hd : Nat) (ops : Array Oper) (j : Nat) (l : List Oper) (st : St) (Q : St → Prop) (_ : Hold ops) (_ : Hold l) (_ : Hold Q) : Prop := WRl C m hd ops j l st Q
theorem W_drawnH {C m st Q i} {ops : Array Oper} {n} (hd : (dOk ops, dHd ops) = (true, n)) :
    W C m (.region i ops true) st Q = WRh C m n ops 0 ops.toList st (fun s => Q .norm s) ⟨⟩ ⟨⟩ ⟨⟩ := W_drawn hd
theorem W_regH {C m st Q i} {l : List Oper} :
    W C m (.region i l.toArray false) st Q = WRh C m 0 l.toArray 0 l st (fun s => Q .norm s) ⟨⟩ ⟨⟩ ⟨⟩ := W_reg
theorem WRh_nil {C m hd ops j st Q t t' t''} : WRh C m hd ops j [] st Q t t' t'' = Q st := rfl
theorem WRh_op {C : Cfg} {m hd ops j dst op ty pos after l ts H wr Q t t' t''} : WRh C m hd ops j ({ dst := dst, op := op, type := ty, pos := pos, after := after, guard := none } :: l) ⟨ts, H, wr⟩ Q t t' t'' =
    WS C ts H op fun v H' d => HdP j hd d (WRh C m hd ops (j + 1) l ⟨putP ts dst v, H', addWs (curD H) m wr d⟩ Q t ⟨⟩ t'') ⟨⟩ := rfl
theorem WRh_gd {C : Cfg} {m hd ops j dst op ty pos after g want l ts H wr Q t t' t''} : WRh C m hd ops j ({ dst := dst, op := op, type := ty, pos := pos, after := after, guard := some (g, want) } :: l) ⟨ts, H, wr⟩ Q t t' t'' =
    GB (gval ops g ts) want
      (WS C ts H op fun v H' d => HdP j hd d (WRh C m hd ops (j + 1) l ⟨putP ts dst v, H', addWs (curD H) m wr d⟩ Q t ⟨⟩ t'') ⟨⟩)
      (WRh C m hd ops (j + 1) l ⟨putP ts dst undefP, H, wr⟩ Q t ⟨⟩ t'') ⟨⟩ ⟨⟩ := by
  unfold WRh HdP
  rw [WRl]
  unfold GB gval wantedP
  simp only []
  cases ((ops[g]?).bind (·.dst)).bind fun t => ts[t]? with
  | none => rfl
  | some v => cases v <;> first | rfl | (rename_i b; cases b <;> cases want <;> rfl)

def WV (x : Option PV) (K : PV → Prop) (_ : Hold K) : Prop := ∃ v, x = some v ∧ K v
theorem WV_some {v} {K : PV → Prop} {t} : WV (some v) K t = K v := by
  apply propext; constructor
  · rintro ⟨v, h, hk⟩; cases h; exact hk
  · intro h; exact ⟨v, rfl, h⟩
def WXh (x : Option (PV × Heap × Wr)) (K : PV → Heap → Wr → Prop) (_ : Hold K) : Prop := WX x K
theorem WXh_some {v H d} {K : PV → Heap → Wr → Prop} {t} : WXh (some (v, H, d)) K t = K v H d := WX_some
/-- The continuation of an operation: what it wrote is asked for in a region's head only. -/
theorem head_ok {j : Nat} {A : Prop} {d : Wr} {t} : HdP j 0 d A t = A := by simp [HdP]
theorem head_nil {j hd : Nat} {A : Prop} {t} : HdP j hd [] A t = A := by simp [HdP]
theorem head_past {j hd : Nat} {A : Prop} {d : Wr} {t} (h : ¬ j < hd) : HdP j hd d A t = A := by simp [HdP, h]

theorem WV_map {x : Option PV} {H : Heap} {K : PV → Heap → Wr → Prop} : WX (x.map fun v => (v, H, [])) K = WV x (fun v => K v H []) ⟨⟩ := by
  cases x with
  | none => apply propext; constructor <;> rintro ⟨_, h⟩ <;> simp at h
  | some v => rw [WV_some]; exact WX_some

theorem WS_move {C : Cfg} {ts H x K} : WS C ts H (.move x) K = WV (evalO ts x) (fun v => K v H []) ⟨⟩ := WV_map
theorem WS_assign {C : Cfg} {ts H x K} : WS C ts H (.assign x) K = WV (evalO ts x) (fun v => K v H []) ⟨⟩ := WV_map
theorem WS_load {C : Cfg} {ts H t x K} : WS C ts H (.load t x) K = WV ((evalO ts x).bind fun a => loadP C.P H t a) (fun v => K v H []) ⟨⟩ := WV_map
theorem WS_binOp {C : Cfg} {ts H op t x y t' K} : WS C ts H (.binOp op t x y t') K = WV ((evalO ts x).bind fun a => (evalO ts y).bind fun b => binOpP C.P op t a b) (fun v => K v H []) ⟨⟩ := WV_map
theorem WS_unOp {C : Cfg} {ts H op t x K} : WS C ts H (.unOp op t x) K = WV ((evalO ts x).bind fun a => unOpP op a) (fun v => K v H []) ⟨⟩ := WV_map
theorem WS_convert {C : Cfg} {ts H s d x K} : WS C ts H (.convert s d x) K = WV ((evalO ts x).bind fun a => convertP C.P s d a) (fun v => K v H []) ⟨⟩ := WV_map
theorem WS_fieldAddr {C : Cfg} {ts H s x f K} : WS C ts H (.fieldAddr s x f) K = WV ((evalO ts x).bind fun a => fieldAddrP C.P s a f) (fun v => K v H []) ⟨⟩ := WV_map
theorem WS_field {C : Cfg} {ts H s x f K} : WS C ts H (.field s x f) K = WV ((evalO ts x).bind fun a => fieldP C.P s a f) (fun v => K v H []) ⟨⟩ := WV_map
theorem WS_indexAddr {C : Cfg} {ts H t x i K} : WS C ts H (.indexAddr t x i) K = WV ((evalO ts x).bind fun a => (evalO ts i).bind fun n => indexAddrP C.P t a n) (fun v => K v H []) ⟨⟩ := WV_map
theorem WS_index {C : Cfg} {ts H t x i K} : WS C ts H (.index t x i) K = WV ((evalO ts x).bind fun a => (evalO ts i).bind fun n => indexP C.P t a n) (fun v => K v H []) ⟨⟩ := WV_map
theorem WS_extract {C : Cfg} {ts H x i K} : WS C ts H (.extract x i) K = WV ((evalO ts x).bind fun a => match a with | .tup vs => vs[i]? | _ => none) (fun v => K v H []) ⟨⟩ := WV_map
def nilCk (v : PV) : Option PV := match v with
    | .ref d i u off hi => some (.ref d i u off hi)
    | .tptr cs => some (.tptr cs)
    | _ => none
theorem WS_nilCheck {C : Cfg} {ts H x K} : WS C ts H (.nilCheck x) K = WV ((evalO ts x).bind nilCk) (fun v => K v H []) ⟨⟩ := WV_map
theorem WS_makeFunc {C : Cfg} {ts H f K} {l : List Operand} : WS C ts H (.makeFunc (.func f) #[] l.toArray) K = WV ((mapO (evalO ts) l).map fun c => .fn f c) (fun v => K v H []) ⟨⟩ := WV_map
theorem WS_alloc {C : Cfg} {ts H t K} : WS C ts H (.alloc t) K = WXh ((tzero C.P t).bind fun z => if (cellsOf z).length = 0 then none else some (.ref (curD H) (curN H) 0 0 (cellsOf z).length, newO H (cellsOf z), [])) K ⟨⟩ := rfl
theorem WS_box {C : Cfg} {ts H t x K} : WS C ts H (.box t x) K = WXh ((evalO ts x).bind fun v => if (cellsOf v).length = 0 ∨ isTup v = true then none else some (.ref (curD H) (curN H) 0 0 (cellsOf v).length, newO H (cellsOf v), [])) K ⟨⟩ := rfl
theorem WS_store {C : Cfg} {ts H t x y K} : WS C ts H (.store t x y) K = WXh ((evalO ts x).bind fun a => (evalO ts y).bind fun v => (storeP C.P H t a v).map fun (H', d) => (undefP, H', d)) K ⟨⟩ := rfl
theorem WS_build {C : Cfg} {ts H t K} {l : List (Nat × Operand)} : WS C ts H (.build t l.toArray) K = WV ((mapO (fun (p : Nat × Operand) => (evalO ts p.2).map fun v => (p.1, v)) l).bind fun ps => buildP C.P t ps) (fun v => K v H []) ⟨⟩ := by
  rw [← WV_map]
  show WX _ K = _
  congr 1
  show ((mapO (fun (p : Nat × Operand) => (evalO ts p.2).map fun v => (p.1, v)) l).bind fun ps => (buildP C.P t ps).map fun v => (v, H, [])) = _
  cases mapO (fun (p : Nat × Operand) => (evalO ts p.2).map fun v => (p.1, v)) l <;> rfl
/-- What a slice's element is: cells, bytes, zero. -/
def slInfo (P : Program) (t : TypeId) : Option (Nat × Nat × List PV) := match P.underlying t with
  | some (.slice elem) => (tsz P elem).bind fun sz => (tby P elem).bind fun by_ => (tzero P elem).bind fun z =>
    if sz = 0 ∨ (cellsOf z).length ≠ sz then none else some (sz, by_, cellsOf z)
  | _ => none
theorem slInfo_eq {P t sz by_ z} (h : slInfo P t = some (sz, by_, z)) : ∃ elem z0, P.underlying t = some (.slice elem) ∧ tsz P elem = some sz ∧ tby P elem = some by_ ∧ tzero P elem = some z0 ∧ cellsOf z0 = z ∧ sz ≠ 0 ∧ z.length = sz := by
  unfold slInfo at h
  split at h
  · rename_i elem he
    cases h1 : tsz P elem with
    | none => rw [h1] at h; simp at h
    | some s =>
      cases h2 : tby P elem with
      | none => rw [h1, h2] at h; simp at h
      | some b =>
        cases h3 : tzero P elem with
        | none => rw [h1, h2, h3] at h; simp at h
        | some z0 =>
          rw [h1, h2, h3] at h
          simp only [Option.bind_some] at h
          split at h
          · simp at h
          · rename_i hn
            rw [not_or] at hn
            simp only [Option.some.injEq, Prod.mk.injEq] at h
            obtain ⟨rfl, rfl, rfl⟩ := h
            exact ⟨elem, z0, he, h1, h2, h3, rfl, hn.1, Decidable.not_not.mp hn.2⟩
  · simp at h
def callB (C : Cfg) (ts : List PV) (H : Heap) (b : Builtin) (as : Option (List PV)) (tys : Array TypeId) : Option (PV × Heap × Wr) :=
  as.bind fun as => match b, as with
    | .len, [a] => (tys[0]?).bind fun t => (lenP C.P t a).map fun v => (v, H, [])
    | .append, [a, b] => (tys[0]?).bind fun t => (tys[1]?).bind fun t2 => appendP C.P H t t2 a b
    | .copy, [a, b] => (tys[0]?).bind fun t => copyP C.P H t a b
    | .min, as => (minMaxP false as).map fun v => (v, H, [])
    | .max, as => (minMaxP true as).map fun v => (v, H, [])
    | _, _ => none
theorem WS_len {C : Cfg} {ts H x t K} : WS C ts H (.call { callee := .builtin .len, args := #[x], argTypes := #[t] }) K = WV ((evalO ts x).bind fun a => lenP C.P t a) (fun v => K v H []) ⟨⟩ := by
  rw [← WV_map]
  show WX ((mapO (evalO ts) [x]).bind _) K = _
  congr 1
  cases h : evalO ts x <;> simp [mapO, h]
theorem WS_append {C : Cfg} {ts H x y t K} : WS C ts H (.call { callee := .builtin .append, args := #[x, y], argTypes := #[t, t] }) K = WXh ((evalO ts x).bind fun a => (evalO ts y).bind fun b => appendP C.P H t t a b) K ⟨⟩ := by
  show WX ((mapO (evalO ts) [x, y]).bind _) K = _
  congr 1
  cases h : evalO ts x <;> cases h' : evalO ts y <;> simp [mapO, h, h']
theorem WS_copy {C : Cfg} {ts H x y t t' K} : WS C ts H (.call { callee := .builtin .copy, args := #[x, y], argTypes := #[t, t'] }) K = WXh ((evalO ts x).bind fun a => (evalO ts y).bind fun b => copyP C.P H t a b) K ⟨⟩ := by
  show WX ((mapO (evalO ts) [x, y]).bind _) K = _
  congr 1
  cases h : evalO ts x <;> cases h' : evalO ts y <;> simp [mapO, h, h']
theorem WS_min {C : Cfg} {ts H K tys} {l : List Operand} : WS C ts H (.call { callee := .builtin .min, args := l.toArray, argTypes := tys }) K = WV ((mapO (evalO ts) l).bind fun as => minMaxP false as) (fun v => K v H []) ⟨⟩ := by
  rw [← WV_map]
  show WX ((mapO (evalO ts) l).bind _) K = _
  congr 1
  cases h : mapO (evalO ts) l with
  | none => rfl
  | some as => cases as <;> rfl
theorem WS_max {C : Cfg} {ts H K tys} {l : List Operand} : WS C ts H (.call { callee := .builtin .max, args := l.toArray, argTypes := tys }) K = WV ((mapO (evalO ts) l).bind fun as => minMaxP true as) (fun v => K v H []) ⟨⟩ := by
  rw [← WV_map]
  show WX ((mapO (evalO ts) l).bind _) K = _
  congr 1
  cases h : mapO (evalO ts) l with
  | none => rfl
  | some as => cases as <;> rfl
theorem WS_makeSlice {C : Cfg} {ts H t x y K} : WS C ts H (.makeSlice t x y) K = WXh ((evalO ts x).bind fun l => (evalO ts y).bind fun c => (makeSliceP C.P H t l c).map fun (v, H') => (v, H', [])) K ⟨⟩ := rfl
theorem WS_slice {C : Cfg} {ts H t x lo hi mx K} (h : (hi.isNone && mx.isSome) = false) : WS C ts H (.slice t x lo hi mx) K = WV ((evalO ts x).bind fun a =>
      (optO (evalO ts) lo).bind fun lo => (optO (evalO ts) hi).bind fun hi => (optO (evalO ts) mx).bind fun mx => sliceP C.P H t a lo hi mx) (fun v => K v H []) ⟨⟩ := by
  rw [← WV_map]
  show WX (if hi.isNone = true ∧ mx.isSome = true then none else _) K = _
  rw [if_neg (by simpa using h)]
theorem WS_pick {C : Cfg} {ts H c a b K} : WS C ts H (.pick c a b) K = WV ((evalO ts c).bind fun c => match c with | .bool true => evalO ts a | .bool false => evalO ts b | _ => none) (fun v => K v H []) ⟨⟩ := WV_map
theorem WS_buildSlice {C : Cfg} {ts H t len K} {l : List (Nat × Operand)} {sz by_ z} (hi : slInfo C.P t = some (sz, by_, z)) (hl : len * sz ≤ 2 ^ 24) :
    WS C ts H (.buildSlice t len l.toArray) K = WXh ((mapO (fun (p : Nat × Operand) => (evalO ts p.2).map fun v => (p.1, v)) l).bind fun ps =>
      (fillP (fun i => some (i * sz, sz)) (repl len z) ps).map fun cells => (.sl (curD H) (curN H) 0 0 len sz true, newO H cells, [])) K ⟨⟩ := by
  obtain ⟨elem, z0, h1, h2, h3, h4, rfl, h5, h6⟩ := slInfo_eq hi
  show WX ((mapO (fun (p : Nat × Operand) => (evalO ts p.2).map fun v => (p.1, v)) l).bind _) K = _
  congr 2
  funext ps
  rw [h1]
  simp only [h2, h4, Option.bind_some]
  rw [if_pos ⟨Nat.pos_of_ne_zero h5, h6, hl⟩]
/-- A call of a Go function. -/
def WSc (C : Cfg) (f : Option PV) (as : Option (List PV)) (H : Heap) (K : PV → Heap → Wr → Prop) (_ : Hold K) : Prop := match f, as with
  | some (.fn f cap), some as => WC C f (as ++ cap) H K
  | _, _ => False
theorem WS_call {C : Cfg} {ts H f tys K} {l : List Operand} {g cap as} (hf : evalO ts f = some (.fn g cap)) (ha : mapO (evalO ts) l = some as) :
    WS C ts H (.call { callee := .value f, args := l.toArray, argTypes := tys }) K = WC C g (as ++ cap) H K := by
  unfold WS
  have : calleeP ts (.call { callee := .value f, args := l.toArray, argTypes := tys }) = some (g, as ++ cap) := by
    unfold calleeP
    simp only [hf, ha, Option.bind_some]
  rw [this]
theorem WX_none {K : PV → Heap → Wr → Prop} : WX none K = False := by
  apply propext; constructor
  · rintro ⟨v, H, d, h, _⟩; cases h
  · intro h; exact h.elim
theorem WS_callE {C : Cfg} {ts H f0 tys K} {l : List Operand} :
    WS C ts H (.call { callee := .value f0, args := l.toArray, argTypes := tys }) K = WSc C (evalO ts f0) (mapO (evalO ts) l) H K ⟨⟩ := by
  have hx : WX (opP C.P ts H (.call { callee := .value f0, args := l.toArray, argTypes := tys })) K = False := WX_none
  have hc : calleeP ts (.call { callee := .value f0, args := l.toArray, argTypes := tys }) = (evalO ts f0).bind fun f => (mapO (evalO ts) l).bind fun as => match f with
    | .fn f cap => some (f, as ++ cap)
    | _ => none := rfl
  unfold WS
  rw [hc, hx]
  cases evalO ts f0 with
  | none => rfl
  | some f =>
    cases mapO (evalO ts) l with
    | none => cases f <;> rfl
    | some as => cases f <;> rfl
/-- A call, left alone. -/
def WCh (C : Cfg) (f : Nat) (args : List PV) (H : Heap) (K : PV → Heap → Wr → Prop) (_ : Hold K) : Prop := WC C f args H K
theorem WSc_fn {C f cap as H K t} : WSc C (some (.fn f cap)) (some as) H K t = WCh C f (as ++ cap) H K t := rfl
theorem WCh_det {C : Cfg} {f args H v H' d} {k} (h : call C k f args H = some (v, H', d)) {K t} : WCh C f args H K t = K v H' d := WC_det h
theorem WCh_pure {C f args v} (h : Pure C f args v) {H K t} : WCh C f args H K t = K v H [] := WC_pure h

theorem ev_tmp {ts t} : evalO ts (.tmp t) = some ((ts[t]?).getD undefP) := rfl
theorem ev_int {ts k n} : evalO ts (.const (.int k n)) = some (.int k n) := rfl
theorem ev_bool {ts b} : evalO ts (.const (.bool b)) = some (.bool b) := rfl
theorem ev_str {ts s} : evalO ts (.const (.string s)) = some (.str s) := rfl
theorem ev_nilp {ts} : evalO ts (.const (.pointer none)) = some .nilp := rfl
theorem ev_nils {ts} : evalO ts (.const (.slice none 0 0)) = some .nils := rfl
theorem ev_nilf {ts} : evalO ts (.const .nilFunc) = some .nilf := rfl
theorem ev_nili {ts} : evalO ts (.const .nilIface) = some .nili := rfl
theorem ev_fn {ts f} : evalO ts (.func f) = some (.fn f []) := rfl
theorem ev_agg {ts} {l : List Value} : evalO ts (.const (.agg l.toArray)) = (mapO ofCell l).map .agg := rfl
theorem put_some {ts d v} : putP ts (some d) v = ts.set d v := rfl
theorem put_none {ts v} : putP ts none v = ts := rfl
theorem getO_cons_self {f : List AObj} {fs : Heap} {i} : getO (f :: fs) fs.length i = f[i]? := by rw [getO, if_pos rfl]
theorem getO_cons_up {f : List AObj} {fs : Heap} {d i} (h : d ≠ fs.length) : getO (f :: fs) d i = getO fs d i := by rw [getO, if_neg h]
theorem setO_cons_self {f : List AObj} {fs : Heap} {i o} : setO (f :: fs) fs.length i o = f.set i o :: fs := by rw [setO, if_pos rfl]
theorem setO_cons_up {f : List AObj} {fs : Heap} {d i o} (h : d ≠ fs.length) : setO (f :: fs) d i o = f :: setO fs d i o := by rw [setO, if_neg h]
theorem curD_cons {f : List AObj} {fs : Heap} : curD (f :: fs) = fs.length := rfl
theorem curN_cons {f : List AObj} {fs : Heap} : curN (f :: fs) = f.length := rfl
theorem newO_cons {f : List AObj} {fs : Heap} {cells} : newO (f :: fs) cells = (f ++ [{ cells, ver := 0, lo := 0 }]) :: fs := rfl
theorem getElem?_app {α : Type} {g l : List α} : (g ++ l)[g.length]? = l[0]? := by rw [List.getElem?_append_right (Nat.le_refl _), Nat.sub_self]
theorem getElem?_appn {α : Type} {g l : List α} {n} : (g ++ l)[g.length + n]? = l[n]? := by rw [List.getElem?_append_right (by omega), Nat.add_sub_cancel_left]
theorem set_app {α : Type} {g l : List α} {x} : (g ++ l).set g.length x = g ++ l.set 0 x := by rw [List.set_append_right _ _ (Nat.le_refl _), Nat.sub_self]
theorem set_appn {α : Type} {g l : List α} {n x} : (g ++ l).set (g.length + n) x = g ++ l.set n x := by
  rw [List.set_append_right _ _ (by omega), Nat.add_sub_cancel_left]
theorem loadP1 {P H t x} (h : tsz P t = some 1 ∧ tagg P t = some false) : loadP P H t x = match x with
    | .ref d i u off hi => (getO H d i).bind fun o => if o.lo ≤ u ∧ u ≤ o.ver ∧ off + 1 ≤ hi ∧ hi ≤ o.cells.length then o.cells[off]? else none
    | .tptr cs => cs[0]?
    | _ => none := by
  unfold loadP
  rw [h.1, h.2]
  simp only [Option.bind_some]
  cases x <;> try rfl
  · rename_i d i u off hi
    simp only []
    cases getO H d i with
    | none => rfl
    | some o =>
      simp only [Option.bind_some]
      split
      · rename_i hc
        simp only [Option.bind_some]
        rw [List.getElem?_eq_getElem (by omega), List.drop_eq_getElem_cons (by omega)]
        rfl
      · rfl
  · rename_i cs
    cases cs with
    | nil => rfl
    | cons c cs => simp
end Go.Proofs.YtbcmiddffckgmaaDoor.Am
