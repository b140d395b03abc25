/- The abstract machine: the operations, out of facts about types. -/
import Derived.Test.YtbcmiddffckgmaaDoorAm18
set_option linter.unusedVariables false
set_option linter.unusedSimpArgs false
set_option linter.unnecessarySimpa false
namespace Go.Proofs.YtbcmiddffckgmaaDoor.Am
open Go

def fldOff (P : Program) (s : TypeId) (f : Nat) : Option Nat := match P.underlying s with
  | some (.struct fields) => (fields[f]?).bind fun fl => match tsz P fl.type with
    | some (_ + 1) => some fl.offset
    | _ => none
  | _ => none
theorem fieldAddr_ref {P s d i u off hi f o} (h : fldOff P s f = some o) : fieldAddrP P s (.ref d i u off hi) f = some (.ref d i u (off + o) hi) := by
  unfold fldOff at h
  unfold fieldAddrP
  cases hu : P.underlying s with
  | none => rw [hu] at h; simp at h
  | some d =>
    rw [hu] at h
    cases d <;> simp only [] at h <;> try (simp at h; done)
    rename_i fields
    cases hf : fields[f]? with
    | none => rw [hf] at h; simp at h
    | some fl =>
      rw [hf] at h
      simp only [hf, Option.bind_some] at h ⊢
      cases ht : tsz P fl.type with
      | none => rw [ht] at h; simp at h
      | some n =>
        rw [ht] at h
        cases n with
        | zero => simp at h
        | succ n => simp only [Option.some.injEq] at h ⊢; subst h; rfl
theorem fieldAddr_tptr {P s cs f o} (h : fldOff P s f = some o) : fieldAddrP P s (.tptr cs) f = if o ≤ cs.length then some (.tptr (cs.drop o)) else none := by
  unfold fldOff at h
  unfold fieldAddrP
  cases hu : P.underlying s with
  | none => rw [hu] at h; simp at h
  | some d =>
    rw [hu] at h
    cases d <;> simp only [] at h <;> try (simp at h; done)
    rename_i fields
    cases hf : fields[f]? with
    | none => rw [hf] at h; simp at h
    | some fl =>
      rw [hf] at h
      simp only [hf, Option.bind_some] at h ⊢
      cases ht : tsz P fl.type with
      | none => rw [ht] at h; simp at h
      | some n =>
        rw [ht] at h
        cases n with
        | zero => simp at h
        | succ n => simp only [Option.some.injEq] at h ⊢; subst h; rfl
def fldPart (P : Program) (t : TypeId) (f : Nat) : Option (Nat × Nat × Bool) := match P.underlying t with
  | some (.struct fields) => (fields[f]?).bind fun fl => (tsz P fl.type).bind fun sz => (tagg P fl.type).map fun b => (fl.offset, sz, b)
  | _ => none
theorem fieldP_1 {P t cs f o} (h : fldPart P t f = some (o, 1, false)) : fieldP P t (.agg cs) f = cs[o]? := by
  unfold fldPart at h
  unfold fieldP
  cases hu : P.underlying t with
  | none => rw [hu] at h; simp at h
  | some d =>
    rw [hu] at h
    cases d <;> simp only [] at h <;> try (simp at h; done)
    rename_i fields
    cases hf : fields[f]? with
    | none => rw [hf] at h; simp at h
    | some fl =>
      rw [hf] at h
      simp only [Option.bind_some] at h ⊢
      unfold partP
      cases hs : tsz P fl.type with
      | none => rw [hs] at h; simp at h
      | some n =>
        rw [hs] at h
        cases ha : tagg P fl.type with
        | none => rw [ha] at h; simp at h
        | some b =>
          rw [ha] at h
          simp only [Option.bind_some, Option.map_some, Option.some.injEq, Prod.mk.injEq] at h
          obtain ⟨rfl, rfl, rfl⟩ := h
          simp only [hf, hs, ha, Option.bind_some]
def bldPlace (P : Program) (t : TypeId) (i : Nat) : Option (Nat × Nat) := match P.underlying t with
  | some (.struct fields) => fieldPlaces P fields i
  | some (.array _ elem) => (tsz P elem).map fun size => (i * size, size)
  | _ => none
def bldOk (P : Program) (t : TypeId) : Bool := match P.underlying t with
  | some (.struct fields) => fields.toList.all fun f => (tsz P f.type).isSome
  | some (.array _ elem) => (tsz P elem).isSome
  | _ => false
theorem buildP_eq {P t parts z} (hz : tzero P t = some z) (ho : bldOk P t = true) : buildP P t parts = (fillP (bldPlace P t) (cellsOf z) parts).map .agg := by
  unfold buildP
  rw [hz]
  unfold bldOk at ho
  cases hu : P.underlying t with
  | none => rw [hu] at ho; simp at ho
  | some d =>
    rw [hu] at ho
    cases d <;> simp only [] at ho <;> try (simp at ho; done)
    · rename_i n elem
      have hp : bldPlace P t = fun i => (tsz P elem).map fun size => (i * size, size) := by funext i; unfold bldPlace; rw [hu]
      cases hs : tsz P elem with
      | none => rw [hs] at ho; simp at ho
      | some s => rw [hp, hs]; simp [hs]
    · rename_i fields
      have hp : bldPlace P t = fieldPlaces P fields := by funext i; unfold bldPlace; rw [hu]
      rw [hp]
      simp only [Option.bind_some]
      rw [if_pos ho]
theorem fill_nil {place cells} : fillP place cells [] = some cells := rfl
theorem fill_cons {place cells i v rest} : fillP place cells ((i, v) :: rest) = (place i).bind fun (off, size) =>
    if (cellsOf v).length = size ∧ off + size ≤ cells.length ∧ isTup v = false then fillP place (splice cells off (cellsOf v)) rest else none := by rw [fillP]
theorem idxP_int {k n} : idx (.int k n) = if 0 ≤ n then some n.toNat else none := rfl
theorem indexAddr_sl {P t sz by_ z} (h : slInfo P t = some (sz, by_, z)) {d i u off len sz' lim k} {n : Int} :
    indexAddrP P t (.sl d i u off len sz' lim) (.int k n) = if 0 ≤ n ∧ n.toNat < len ∧ sz' = sz then some (.ref d i u (off + n.toNat * sz) (off + n.toNat * sz + sz)) else none := by
  obtain ⟨elem, z0, h1, h2, h3, h4, rfl, h5, h6⟩ := slInfo_eq h
  unfold indexAddrP
  rw [h1]
  simp only [h2, idx]
  cases sz with
  | zero => exact absurd rfl h5
  | succ s =>
    by_cases hn : 0 ≤ n
    · rw [if_pos hn]; simp [hn]
    · rw [if_neg hn, if_neg (fun hh => hn hh.1)]; rfl
theorem indexAddr_tree {P t sz by_ z} (h : slInfo P t = some (sz, by_, z)) {es lim k} {n : Int} :
    indexAddrP P t (.tree es lim) (.int k n) = if 0 ≤ n then (es[n.toNat]?).bind (fun e => if e.length = sz then some (.tptr e) else none) else none := by
  obtain ⟨elem, z0, h1, h2, h3, h4, rfl, h5, h6⟩ := slInfo_eq h
  unfold indexAddrP
  rw [h1]
  simp only [h2, idx]
  cases sz with
  | zero => exact absurd rfl h5
  | succ s =>
    by_cases hn : 0 ≤ n
    · rw [if_pos hn, if_pos hn]
      simp only [Option.bind_some]
      cases es[n.toNat]? <;> rfl
    · rw [if_neg hn, if_neg hn]; rfl
theorem append_nils {P t sz by_ z} (h : slInfo P t = some (sz, by_, z)) {H x} :
    appendP P H t t .nils x = (srcCells H sz x).bind fun (n, new) => if n = 0 then some (.nils, H, []) else if roomOk n by_ then some (.sl (curD H) (curN H) 0 0 n sz false, newO H new, []) else none := by
  obtain ⟨elem, z0, h1, h2, h3, h4, rfl, h5, h6⟩ := slInfo_eq h
  unfold appendP
  rw [h1]
  simp only [h2, h3, h4, Option.bind_some]
  rw [if_neg (by simp [h5, h6])]
/-- An append to a slice that grew so. -/
def appSl (H : Heap) (sz by_ d i u n0 : Nat) (x : PV) : Option (PV × Heap × Wr) := (srcCells H sz x).bind fun (n, new) => if n = 0 then some (.sl d i u 0 n0 sz false, H, []) else
      (getO H d i).bind fun o => if u = o.ver ∧ n0 * sz = o.cells.length then
        (if roomOk (n0 + n) by_ ∧ (d = curD H ∨ dleL d new = true) then
          some (.sl d i (u + 1) 0 (n0 + n) sz false, setO H d i { cells := o.cells ++ new, ver := o.ver + 1, lo := o.lo }, [(d, i)])
         else none)
      else if n0 * sz + new.length ≤ o.cells.length then
        (storeC H d i u (n0 * sz) o.cells.length new).map fun (H', dirty) => (.sl d i u 0 (n0 + n) sz false, H', dirty)
      else none
theorem append_sl {P t sz by_ z} (h : slInfo P t = some (sz, by_, z)) {H x d i u n0} :
    appendP P H t t (.sl d i u 0 n0 sz false) x = appSl H sz by_ d i u n0 x := by
  obtain ⟨elem, z0, h1, h2, h3, h4, rfl, h5, h6⟩ := slInfo_eq h
  unfold appendP
  rw [h1]
  simp only [h2, h3, h4, Option.bind_some]
  rw [if_neg (by simp [h5, h6])]
  simp [appSl]
theorem len_str {P t} {s : ByteArray} (h : P.underlying t = some .string) : lenP P t (.str s) = some (.int .i64 s.size) := by unfold lenP; rw [h]
theorem len_nils {P t sz by_ z} (h : slInfo P t = some (sz, by_, z)) : lenP P t .nils = some (.int .i64 0) := by
  obtain ⟨elem, z0, h1, _⟩ := slInfo_eq h; unfold lenP; rw [h1]
theorem len_sl {P t sz by_ z} (h : slInfo P t = some (sz, by_, z)) {d i u off len sz' lim} : lenP P t (.sl d i u off len sz' lim) = some (.int .i64 len) := by
  obtain ⟨elem, z0, h1, _⟩ := slInfo_eq h; unfold lenP; rw [h1]
theorem len_tree {P t sz by_ z} (h : slInfo P t = some (sz, by_, z)) {es lim} : lenP P t (.tree es lim) = some (.int .i64 es.length) := by
  obtain ⟨elem, z0, h1, _⟩ := slInfo_eq h; unfold lenP; rw [h1]
theorem index_str {P t} {s : ByteArray} {k} {n : Int} (h : P.underlying t = some .string) : indexP P t (.str s) (.int k n) = if 0 ≤ n then (s[n.toNat]?).map (fun b => .int .u8 b.toNat) else none := by
  unfold indexP
  rw [h]
  unfold idx
  simp only []
  by_cases hn : 0 ≤ n
  · rw [if_pos hn, if_pos hn]; rfl
  · rw [if_neg hn, if_neg hn]; rfl
theorem bin_int {P op t k} {a b : Int} (h : op ≠ .shl ∧ op ≠ .shr) : binOpP P op t (.int k a) (.int k b) = intOp op k a b := by
  unfold binOpP
  cases op <;> simp_all
theorem io_add {k} {x y : Int} : intOp .add k x y = some (.int k (k.wrap (x + y))) := rfl
theorem io_sub {k} {x y : Int} : intOp .sub k x y = some (.int k (k.wrap (x - y))) := rfl
theorem io_mul {k} {x y : Int} : intOp .mul k x y = some (.int k (k.wrap (x * y))) := rfl
theorem io_eql {k} {x y : Int} : intOp .eql k x y = some (.bool (x == y)) := rfl
theorem io_neq {k} {x y : Int} : intOp .neq k x y = some (.bool (x != y)) := rfl
theorem io_lss {k} {x y : Int} : intOp .lss k x y = some (.bool (decide (x < y))) := rfl
theorem io_leq {k} {x y : Int} : intOp .leq k x y = some (.bool (decide (x ≤ y))) := rfl
theorem io_gtr {k} {x y : Int} : intOp .gtr k x y = some (.bool (decide (x > y))) := rfl
theorem io_geq {k} {x y : Int} : intOp .geq k x y = some (.bool (decide (x ≥ y))) := rfl
theorem bin_str {P op t} {a b : ByteArray} : binOpP P op t (.str a) (.str b) = strOp op a b := rfl
theorem so_eql {x y : ByteArray} : strOp .eql x y = some (.bool (x.toList == y.toList)) := rfl
theorem so_neq {x y : ByteArray} : strOp .neq x y = some (.bool !(x.toList == y.toList)) := rfl
theorem un_not {b} : unOpP .not (.bool b) = some (.bool !b) := rfl
theorem un_neg {k n} : unOpP .neg (.int k n) = some (.int k (k.wrap (0 - n))) := rfl
theorem conv_int {P s d ts k k' n} (h : P.underlying s = some ts) (h' : P.underlying d = some (.int k)) : convertP P s d (.int k' n) = some (.int k (k.wrap n)) := by
  unfold convertP; rw [h, h']
theorem store_ref {P H t d i u off hi v sz} (h : tsz P t = some sz) : storeP P H t (.ref d i u off hi) v = if (cellsOf v).length = sz ∧ isTup v = false then storeC H d i u off hi (cellsOf v) else none := by
  unfold storeP
  rw [h]
  by_cases hc : sz = (cellsOf v).length
  · subst hc; simp
  · rw [if_neg (fun hh => hc hh.1.symm)]; show (if _ then _ else _) = _; rw [if_neg (fun hh => hc (Option.some.inj hh.1))]
theorem cells_int {k n} : cellsOf (.int k n) = [.int k n] := rfl
theorem cells_bool {b} : cellsOf (.bool b) = [.bool b] := rfl
theorem cells_str {s} : cellsOf (.str s) = [.str s] := rfl
theorem cells_agg {cs} : cellsOf (.agg cs) = cs := rfl
theorem cells_sl {d i u off len sz lim} : cellsOf (.sl d i u off len sz lim) = [.sl d i u off len sz lim] := rfl
theorem cells_tree {es lim} : cellsOf (.tree es lim) = [.tree es lim] := rfl
theorem cells_nils : cellsOf .nils = [.nils] := rfl
theorem cells_nilp : cellsOf .nilp = [.nilp] := rfl
theorem cells_ref {d i u off hi} : cellsOf (.ref d i u off hi) = [.ref d i u off hi] := rfl
theorem cells_fn {f c} : cellsOf (.fn f c) = [.fn f c] := rfl
theorem tup_int {k n} : isTup (.int k n) = false := rfl
theorem tup_bool {b} : isTup (.bool b) = false := rfl
theorem tup_str {s} : isTup (.str s) = false := rfl
theorem tup_agg {cs} : isTup (.agg cs) = false := rfl
theorem tup_sl {d i u off len sz lim} : isTup (.sl d i u off len sz lim) = false := rfl
theorem tup_tree {es lim} : isTup (.tree es lim) = false := rfl
theorem tup_nils : isTup .nils = false := rfl
theorem tup_nilp : isTup .nilp = false := rfl
theorem tup_ref {d i u off hi} : isTup (.ref d i u off hi) = false := rfl
theorem tup_fn {f c} : isTup (.fn f c) = false := rfl
theorem loadA_ref {P H t d i u off hi sz} (h : tsz P t = some sz ∧ tagg P t = some true) : loadP P H t (.ref d i u off hi) = (getO H d i).bind fun o =>
    if o.lo ≤ u ∧ u ≤ o.ver ∧ off + sz ≤ hi ∧ hi ≤ o.cells.length then some (.agg ((o.cells.drop off).take sz)) else none := by
  unfold loadP
  rw [h.1, h.2]
  simp only [Option.bind_some]
  cases getO H d i with
  | none => rfl
  | some o => simp only [Option.bind_some]; split <;> rfl
theorem loadA_tptr {P H t cs sz} (h : tsz P t = some sz ∧ tagg P t = some true) : loadP P H t (.tptr cs) = if sz ≤ cs.length then some (.agg (cs.take sz)) else none := by
  unfold loadP
  rw [h.1, h.2]
  simp only [Option.bind_some]
  split <;> rfl
theorem wrap64 {n : Int} (h : -9223372036854775808 ≤ n ∧ n ≤ 9223372036854775807) : IntKind.i64.wrap n = n := by
  unfold IntKind.wrap
  simp [IntKind.bits, IntKind.signed]
  omega
theorem res_nil {P fn H ts} (h : fn.results = #[]) : resultsP P fn H ts = some (.tup []) := by unfold resultsP; rw [h]; rfl
theorem res_tmp {P H ts t} : resultP P H ts (.tmp t) = some ((ts[t]?).getD undefP) := rfl
theorem res_cell {P H ts a t} : resultP P H ts (.cell a t) = loadP P H t ((ts[a]?).getD undefP) := rfl
def tupOf : List PV → PV
  | [v] => v
  | vs => .tup vs
theorem tupOf_1 {v} : tupOf [v] = v := rfl
theorem tupOf_2 {v w} : tupOf [v, w] = .tup [v, w] := rfl
theorem tupOf_3 {v w x} : tupOf [v, w, x] = .tup [v, w, x] := rfl
theorem res_eq {P fn H ts} : resultsP P fn H ts = (mapO (resultP P H ts) fn.results.toList).map tupOf := by
  unfold resultsP
  congr 1
theorem reify_int {H D k i n} : reify H D (k + 1) (.int i n) = some (.int i n) := by rw [reify] <;> exact nofun
theorem reify_bool {H D k b} : reify H D (k + 1) (.bool b) = some (.bool b) := by rw [reify] <;> exact nofun
theorem reify_str {H D k s} : reify H D (k + 1) (.str s) = some (.str s) := by rw [reify] <;> exact nofun
theorem reify_nils {H D k} : reify H D (k + 1) .nils = some .nils := by rw [reify] <;> exact nofun
theorem reify_nilp {H D k} : reify H D (k + 1) .nilp = some .nilp := by rw [reify] <;> exact nofun
theorem reify_agg {H D k cs} : reify H D (k + 1) (.agg cs) = (mapO (reify H D k) cs).map .agg := by rw [reify]
theorem reify_tup {H D k cs} : reify H D (k + 1) (.tup cs) = (mapO (reify H D k) cs).map .tup := by rw [reify]
/-- Numbers, texts, truth values. -/
def scal : PV → Bool
  | .int _ _ => true
  | .bool _ => true
  | .str _ => true
  | _ => false
theorem reify_scal {H D k v} (h : scal v = true) : reify H D (k + 1) v = some v := by
  cases v <;> simp only [scal] at h <;> first | (cases h; done) | exact reify_int | exact reify_bool | exact reify_str
def scalL (es : List (List PV)) : Bool := es.all fun e => e.all scal
theorem mapO_some {α : Type} {f : α → Option α} : ∀ (l : List α), (∀ x ∈ l, f x = some x) → mapO f l = some l
  | [], _ => rfl
  | x :: xs, h => by
    rw [mapO, h x (by simp), Option.bind_some, mapO_some xs fun y hy => h y (by simp [hy])]; rfl
theorem mapO_scal {H D k es} (h : scalL es = true) : mapO (mapO (reify H D (k + 1))) es = some es := by
  refine mapO_some es fun e he => mapO_some e fun c hc => reify_scal ?_
  unfold scalL at h
  rw [List.all_eq_true] at h
  have := h e he
  rw [List.all_eq_true] at this
  exact this c hc
theorem reify_tree {H D k es lim} (h : scalL es = true) : reify H D (k + 2) (.tree es lim) = some (.tree es lim) := by
  rw [reify, mapO_scal h]; rfl
theorem chunksP_flat {sz : Nat} : ∀ (es : List (List PV)) (rest : List PV), (∀ e ∈ es, e.length = sz) → chunks sz es.length (es.flatten ++ rest) = es
  | [], _, _ => rfl
  | e :: es, rest, h => by
    have he := h e (by simp)
    simp only [List.length_cons, chunks, List.flatten_cons, List.append_assoc]
    subst he
    rw [List.take_left, List.drop_left, chunksP_flat es rest fun x hx => h x (by simp [hx])]
theorem reify_sl {H D k d i u off n sz lim o} {es : List (List PV)} (hd : ¬ d < D) (ho : getO H d i = some o) (hu : o.lo ≤ u ∧ u ≤ o.ver) (hs : 0 < sz) (hn : es.length = n) (he : ∀ e ∈ es, e.length = sz)
    {rest} (hc : o.cells.drop off = es.flatten ++ rest) (hoff : off ≤ o.cells.length) (h : scalL es = true) : reify H D (k + 2) (.sl d i u off n sz lim) = some (.tree es lim) := by
  rw [reify, if_neg hd, ho]
  simp only [Option.bind_some]
  have hl : es.flatten.length = n * sz := by
    subst hn
    clear hc h
    induction es with
    | nil => simp
    | cons e es ih => simp only [List.flatten_cons, List.length_append, List.length_cons, he e (by simp), ih fun x hx => he x (by simp [hx])]; rw [Nat.add_mul, Nat.one_mul, Nat.add_comm]
  have hlen : off + n * sz ≤ o.cells.length := by
    have := congrArg List.length hc
    rw [List.length_drop, List.length_append, hl] at this
    omega
  rw [if_pos ⟨hu.1, hu.2, hs, hlen⟩, hc]
  subst hn
  rw [chunksP_flat es rest he, mapO_scal h]; rfl
theorem bin_add {P t k} {a b : Int} : binOpP P .add t (.int k a) (.int k b) = some (.int k (k.wrap (a + b))) := bin_int ⟨nofun, nofun⟩
theorem bin_sub {P t k} {a b : Int} : binOpP P .sub t (.int k a) (.int k b) = some (.int k (k.wrap (a - b))) := bin_int ⟨nofun, nofun⟩
theorem bin_mul {P t k} {a b : Int} : binOpP P .mul t (.int k a) (.int k b) = some (.int k (k.wrap (a * b))) := bin_int ⟨nofun, nofun⟩
theorem bin_eql {P t k} {a b : Int} : binOpP P .eql t (.int k a) (.int k b) = some (.bool (a == b)) := bin_int ⟨nofun, nofun⟩
theorem bin_neq {P t k} {a b : Int} : binOpP P .neq t (.int k a) (.int k b) = some (.bool (a != b)) := bin_int ⟨nofun, nofun⟩
theorem bin_lss {P t k} {a b : Int} : binOpP P .lss t (.int k a) (.int k b) = some (.bool (decide (a < b))) := bin_int ⟨nofun, nofun⟩
theorem bin_leq {P t k} {a b : Int} : binOpP P .leq t (.int k a) (.int k b) = some (.bool (decide (a ≤ b))) := bin_int ⟨nofun, nofun⟩
theorem bin_gtr {P t k} {a b : Int} : binOpP P .gtr t (.int k a) (.int k b) = some (.bool (decide (a > b))) := bin_int ⟨nofun, nofun⟩
theorem bin_geq {P t k} {a b : Int} : binOpP P .geq t (.int k a) (.int k b) = some (.bool (decide (a ≥ b))) := bin_int ⟨nofun, nofun⟩
theorem bin_quo {P t k} {a b : Int} : binOpP P .quo t (.int k a) (.int k b) = if b = 0 then none else some (.int k (k.wrap (a.tdiv b))) := bin_int ⟨nofun, nofun⟩
theorem bin_rem {P t k} {a b : Int} : binOpP P .rem t (.int k a) (.int k b) = if b = 0 then none else some (.int k (a.tmod b)) := bin_int ⟨nofun, nofun⟩
theorem bin_shl {P t k k'} {a b : Int} : binOpP P .shl t (.int k a) (.int k' b) = shiftP .shl k a b := rfl
theorem bin_shr {P t k k'} {a b : Int} : binOpP P .shr t (.int k a) (.int k' b) = shiftP .shr k a b := rfl
theorem bin_and {P t k} {a b : Int} : binOpP P .and t (.int k a) (.int k b) = bitsP .and k a b := bin_int ⟨nofun, nofun⟩
theorem bin_or {P t k} {a b : Int} : binOpP P .or t (.int k a) (.int k b) = bitsP .or k a b := bin_int ⟨nofun, nofun⟩
theorem addWs_one {D m wr p} : addWs D m wr [p] = if outer D m p = true then addW wr p else wr := by
  unfold addWs
  cases h : outer D m p <;> simp [List.filter, h]
theorem get_zero {α : Type} {a : α} {l : List α} : (a :: l)[0]? = some a := rfl
theorem get_succ {α : Type} {a : α} {l : List α} {n : Nat} : (a :: l)[n + 1]? = l[n]? := rfl
theorem if_not_true {p : Prop} [Decidable p] {α : Type} {a b : α} (h : p) : (if p then a else b) = a := if_pos h

/-! ### the simp set -/
attribute [go_sem ↓] W_skip W_label W_ret W_exit W_seqH W_block W_condH W_loopH W_regH Br_true Br_false head_ok WS_move WS_assign
attribute [go_sem ↓] WS_load WS_binOp WS_unOp WS_convert WS_fieldAddr WS_field WS_indexAddr WS_index WS_extract WS_nilCheck WS_makeFunc WS_alloc WS_box WS_store
attribute [go_sem ↓] WS_build WS_len WS_append WS_copy WS_min WS_max WS_makeSlice WS_pick WS_callE
attribute [go_sem] BrH_Br thenH_norm thenH_exit thenH_ret blk_norm blk_ret blk_exit WRh_nil WRh_op WRh_gd GB_t GB_f GB_u gval_lit
attribute [go_sem] WV_some WXh_some WX_some WX_none head_nil WSc_fn nilCk mapO optO ev_tmp ev_int ev_bool ev_str ev_nilp
attribute [go_sem] ev_nils ev_nilf ev_nili ev_fn ev_agg put_some put_none getO_cons_self getO_cons_up setO_cons_self setO_cons_up curD_cons curN_cons newO_cons
attribute [go_sem] Option.bind_some Option.bind_none Option.map_some Option.map_none Option.getD_some List.getElem?_cons_zero List.getElem?_cons_succ List.set_cons_zero List.set_cons_succ List.length_cons List.length_nil List.cons_append List.nil_append List.append_nil
attribute [go_sem] fill_nil fill_cons splice List.take_succ_cons List.take_zero List.drop_succ_cons List.drop_zero List.take_nil List.drop_nil bin_add bin_sub bin_mul bin_eql bin_neq
attribute [go_sem] bin_lss bin_leq bin_gtr bin_geq bin_quo bin_rem bin_str so_eql so_neq un_not un_neg storeC cells_int cells_bool
attribute [go_sem] cells_str cells_agg cells_sl cells_tree cells_nils cells_nilp cells_ref cells_fn tup_int tup_bool tup_str tup_agg tup_sl tup_tree
attribute [go_sem] tup_nils tup_nilp tup_ref tup_fn addWs_nil addWs_one outer addW List.filter_nil List.filter_cons List.foldl_nil List.foldl_cons ne_eq not_false_eq_true
attribute [go_sem] not_true_eq_false true_and and_true false_and and_false if_true if_false ite_true ite_false Bool.not_true Bool.not_false bne_self_eq_false beq_self_eq_true Bool.false_eq_true
attribute [go_sem] Nat.lt_irrefl decide_false decide_true Nat.not_lt_zero Nat.zero_le Nat.le_refl Nat.zero_add Nat.add_zero dleL dle Bool.and_true Bool.true_and Bool.or_true Bool.true_or
attribute [go_sem] Bool.or_false Bool.false_or not_false or_self false_or or_false res_eq res_tmp res_cell tupOf_1 tupOf_2 tupOf_3 reify_int reify_bool
attribute [go_sem] reify_str reify_nils reify_nilp reify_agg reify_tup List.tail_cons implies_true forall_const
end Go.Proofs.YtbcmiddffckgmaaDoor.Am
