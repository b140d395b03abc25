/- Writing, new objects, addresses, parts, slice expressions, lengths. -/
import Derived.Test.YtbcmiddffckgmaaDoorAm3
set_option linter.unusedVariables false
set_option linter.unusedSimpArgs false
set_option linter.unnecessarySimpa false
namespace Go.Proofs.YtbcmiddffckgmaaDoor.Am
open Go

/-- Old blocks are unchanged, but for those of the objects that are told. -/
def Frm (ρ : Rho) (w w' : World) (wr : Wr) : Prop := ∀ b, b < w.heap.size → w'.heap[b]? = w.heap[b]? ∨ ∃ d i u n, ρ d i u = some (b, n) ∧ (d, i) ∈ wr

theorem Frm.refl (ρ : Rho) (w : World) (wr : Wr) : Frm ρ w w wr := fun _ _ => .inl rfl

structure Out (P : Program) (ρ : Rho) (w : World) (s : Sem Value) (p : PV) (H' : Heap) (wr : Wr) (val : Value) (w' : World) (ρ' : Rho) : Prop where
  run : s.run P w = .ok val w'
  rel : HRel ρ' H' w'
  ext : Ext ρ w ρ' w'
  vr : VR ρ' w' p val
  frm : Frm ρ w w' wr

def Outs (P : Program) (ρ : Rho) (w : World) (s : Sem Value) (p : PV) (H' : Heap) (wr : Wr) : Prop := ∃ val w' ρ', Out P ρ w s p H' wr val w' ρ'

theorem Outs.pure {P : Program} {ρ : Rho} {H : Heap} {w : World} {s : Sem Value} {p : PV} {wr : Wr} (hr : HRel ρ H w) {val : Value} (h : s.run P w = .ok val w) (hv : VR ρ w p val) : Outs P ρ w s p H wr :=
  ⟨val, w, ρ, h, hr, .refl _ _, hv, .refl _ _ _⟩

theorem seg_get {α : Type} (l new : List α) (off j : Nat) (h : off + new.length ≤ l.length) :
    (l.take off ++ new ++ l.drop (off + new.length))[j]? = if off ≤ j ∧ j < off + new.length then new[j - off]? else l[j]? := by
  by_cases h1 : j < off
  · rw [if_neg (by omega), List.append_assoc, List.getElem?_append_left (by simp; omega), List.getElem?_take, if_pos h1]
  · by_cases h2 : j < off + new.length
    · rw [if_pos (by omega), List.append_assoc, List.getElem?_append_right (by simp; omega), List.getElem?_append_left (by simp; omega)]
      congr 1; simp; omega
    · rw [if_neg (by omega), List.getElem?_append_right (by simp; omega), List.getElem?_drop]
      congr 1; simp; omega

theorem wrote_setRow {w : World} {g off : Nat} {cur : Array Value} {ty : TypeId} {vals : List Value} (hg : w.heap[g]? = some (.cells cur ty (0, 0))) (hf : off + vals.length ≤ cur.size) :
    Wrote w (w.setRow g (cur.toList.take off ++ vals ++ cur.toList.drop (off + vals.length)).toArray) g cur (cur.toList.take off ++ vals ++ cur.toList.drop (off + vals.length)).toArray ty := by
  refine ⟨hg, setRow_heap w g cur _ ty _ hg, fun k hk => setRow_other w g k _ hk, by simp, ?_, ⟨rfl, rfl, rfl⟩⟩
  simp; omega

theorem storeC_sound {P : Program} {ρ : Rho} {H H' : Heap} {w : World} (hr : HRel ρ H w) {d i u off hi : Nat} {cells : List PV} {wr : Wr} (h : storeC H d i u off hi cells = some (H', wr))
    {b n : Nat} (he : ρ d i u = some (b, n)) (hn : hi ≤ n) {vals : List Value} (hl : LV ρ w cells vals) (h1 : ∀ v ∈ vals, v.oneCell' = true) :
    ∃ w', (storeCells ⟨b, off, none⟩ vals).run P w = .ok () w' ∧ HRel ρ H' w' ∧ Ext ρ w ρ w' ∧ Frm ρ w w' wr := by
  unfold storeC at h
  simp only [Option.bind_eq_some_iff] at h
  obtain ⟨o, ho, h⟩ := h
  split at h
  case isFalse => cases h
  rename_i hc
  obtain ⟨hu, h2, h3, h4⟩ := hc
  cases h
  subst hu
  obtain ⟨cur, ty, hcur, hsz⟩ := hr.block _ _ _ _ _ he
  have hlen := LV_length _ _ hl
  have hst := run_storeCells_at P b off ty vals 0 cur w hcur (by omega) h1
  simp only [Nat.add_zero] at hst
  have hw := wrote_setRow (off := off) hcur (vals := vals) (by omega)
  have hd : dleL d cells = true := by
    rcases h4 with h4 | h4
    · cases H with
      | nil => simp [getO] at ho
      | cons f fs =>
        have := LV.dle hr.dom _ _ hl
        rw [h4]; simpa [curD] using this
    · exact h4
  obtain ⟨r1, r2⟩ := hr.write ho he hw hl h1 (off := off) (by omega) (fun j => by
    have := seg_get cur.toList vals off j (by simp; omega)
    rw [hlen]
    simpa using this) hd
  refine ⟨_, hst, r1, r2, fun k hk => ?_⟩
  by_cases e : k = b
  · subst e; exact .inr ⟨d, i, o.ver, n, he, by simp⟩
  · exact .inl (hw.same k e)

theorem storeP_sound {P : Program} {ρ : Rho} {H H' : Heap} {w : World} (hr : HRel ρ H w) {t : TypeId} {x v : PV} {xv vv : Value} {wr : Wr} (h : storeP P H t x v = some (H', wr)) (hx : VR ρ w x xv) (hv : VR ρ w v vv) :
    ∃ w', (Instr.storeAt t xv vv).run P w = .ok () w' ∧ HRel ρ H' w' ∧ Ext ρ w ρ w' ∧ Frm ρ w w' wr := by
  unfold storeP at h
  split at h
  · rename_i d i u off hi
    split at h
    · rename_i hc
      simp only [VR] at hx
      obtain ⟨b, n, h1, rfl, h3⟩ := hx
      obtain ⟨hl, ho⟩ := VR_cells hv hc.2
      obtain ⟨w', e1, e2, e3, e4⟩ := storeC_sound (P := P) hr h h1 h3 hl ho
      refine ⟨w', ?_, e2, e3, e4⟩
      have hs : vv.cells.size = (cellsOf v).length := by have := LV_length _ _ hl; simp at this; omega
      simp [Instr.storeAt, Instr.sureAddr, storeVar, run_sizeOf hc.1, hs, e1]
    · cases h
  · cases h

theorem newO_sound {ρ : Rho} {H : Heap} {w w' : World} (hne : H ≠ []) (hr : HRel ρ H w) {arr : Array Value} {ty : TypeId} (hw : w'.heap = w.heap.push (.cells arr ty)) (hs : Side w w')
    {cells : List PV} {vals : List Value} (hl : LV ρ w cells vals) (h1 : ∀ v ∈ vals, v.oneCell' = true) (ht : arr.toList.take cells.length = vals) :
    ∃ ρ', HRel ρ' (newO H cells) w' ∧ Ext ρ w ρ' w' ∧ ρ' (curD H) (curN H) 0 = some (w.heap.size, cells.length) ∧ ∀ wr, Frm ρ w w' wr := by
  cases H with
  | nil => exact absurd rfl hne
  | cons f fs =>
    obtain ⟨r1, r2⟩ := hr.new hw hs hl h1 ht
    refine ⟨_, r1, r2, by simp [updR_at, curD, curN], fun wr b hb => .inl (heap_push_old hw hb)⟩

theorem bsize_push {w w' : World} {arr : Array Value} {ty : TypeId} (hw : w'.heap = w.heap.push (.cells arr ty)) : bsize w' w.heap.size = arr.size := by
  simp [bsize, heap_push_new hw]

/-- A box: a new object for a value. -/
theorem box_sound {P : Program} {ρ : Rho} {H : Heap} {w : World} (hne : H ≠ []) (hr : HRel ρ H w) {t : TypeId} {v : PV} {vv : Value} (hv : VR ρ w v vv) (ht : isTup v = false) (wr : Wr) :
    Outs P ρ w (do pure (.pointer (some (← newVar t vv)))) (.ref (curD H) (curN H) 0 0 (cellsOf v).length) (newO H (cellsOf v)) wr := by
  obtain ⟨hl, h1⟩ := VR_cells hv ht
  have hlen := LV_length _ _ hl
  obtain ⟨ρ', e1, e2, e3, e4⟩ := newO_sound (w' := { w with heap := w.heap.push (.cells vv.cells t) }) hne hr rfl ⟨rfl, rfl, rfl⟩ hl h1 (by rw [hlen]; exact List.take_length)
  refine ⟨.pointer (some ⟨w.heap.size, 0, none⟩), { w with heap := w.heap.push (.cells vv.cells t) }, ρ', ?_, e1, e2, ?_, e4 wr⟩
  · simp [newVar, newRow]
  · simp only [VR]
    exact ⟨_, _, e3, rfl, Nat.le_refl _⟩

theorem tzero_info {P : Program} {t : TypeId} {z : PV} (h : tzero P t = some z) : ∃ i v, P.info? t = some i ∧ i.zero = some v ∧ ofValue v = some z := by
  unfold tzero at h
  simp only [Option.bind_eq_some_iff] at h
  obtain ⟨v, ⟨i, hi, hz⟩, hv⟩ := h
  exact ⟨i, v, hi, hz, hv⟩

theorem run_zero {P : Program} {t : TypeId} {z : PV} (h : tzero P t = some z) (w : World) (ρ : Rho) : ∃ v, (zeroValue t).run P w = .ok v w ∧ VR ρ w z v ∧ isTup z = false := by
  obtain ⟨i, v, hi, hz, hv⟩ := tzero_info h
  refine ⟨v, by simp [zeroValue, typeInfo, hi, hz], ofValue_VR hv ρ w, ?_⟩
  unfold ofValue at hv
  split at hv
  · simp only [Option.map_eq_some_iff] at hv; obtain ⟨_, _, rfl⟩ := hv; rfl
  · cases hv
  · exact (ofCell_VR hv ρ w).2.2.2

theorem alloc_sound {P : Program} {ρ : Rho} {H : Heap} {w : World} (hne : H ≠ []) (hr : HRel ρ H w) {t : TypeId} {z : PV} (hz : tzero P t = some z) (wr : Wr) :
    Outs P ρ w (Instr.alloc t true (.tuple #[])) (.ref (curD H) (curN H) 0 0 (cellsOf z).length) (newO H (cellsOf z)) wr := by
  obtain ⟨v, h1, h2, h3⟩ := run_zero hz w ρ
  obtain ⟨val, w', ρ', h4⟩ := box_sound (P := P) hne hr (t := t) h2 h3 wr
  refine ⟨val, w', ρ', ?_, h4.rel, h4.ext, h4.vr, h4.frm⟩
  have := h4.run
  simp only [Instr.alloc, Sem.run_bind, h1, Result.andThen_ok] at this ⊢
  exact this

theorem fieldAddrP_sound {P : Program} {ρ : Rho} {w : World} {s : TypeId} {x v : PV} {xv : Value} {f : Nat} (h : fieldAddrP P s x f = some v) (hx : VR ρ w x xv) :
    ∃ val, (Instr.fieldAt s xv f).run P w = .ok val w ∧ VR ρ w v val := by
  unfold fieldAddrP at h
  split at h
  case h_2 => cases h
  rename_i fields hu
  simp only [Option.bind_eq_some_iff] at h
  obtain ⟨fl, hf, h⟩ := h
  split at h
  case h_2 => cases h
  rename_i sz hsz
  have hplace : ∀ b o, (fieldPlace ⟨b, o, none⟩ fl).run P w = .ok ⟨b, o + fl.offset, none⟩ w := by
    intro b o
    simp [fieldPlace, run_sizeOf hsz, addr_add]
  split at h
  · cases h
    simp only [VR] at hx ⊢
    obtain ⟨b, n, h1, rfl, h3⟩ := hx
    exact ⟨_, by simp [Instr.fieldAt, run_underlying hu, hf, Instr.sureAddr, hplace], b, n, h1, rfl, h3⟩
  · split at h
    · cases h
      simp only [VR] at hx ⊢
      obtain ⟨b, o, rfl, h2, h3⟩ := hx
      exact ⟨_, by simp [Instr.fieldAt, run_underlying hu, hf, Instr.sureAddr, hplace], b, o + fl.offset, rfl, h2, CV_drop h3 _⟩
    · cases h
  · cases h

theorem idx_int {n : PV} {k : Nat} (h : idx n = some k) : ∃ kd i, n = .int kd i ∧ 0 ≤ i ∧ i.toNat = k := by
  unfold idx at h
  split at h
  · split at h
    · cases h; rename_i kd i hi; exact ⟨kd, i, rfl, hi, rfl⟩
    · cases h
  · cases h

theorem CV_elem {ρ : Rho} {w : World} {es : List (List PV)} {sz : Nat} (hsz : ∀ e ∈ es, e.length = sz) : ∀ {b o n : Nat} {e : List PV}, CVV ρ w es b o → es[n]? = some e → CV ρ w e b (o + n * sz) := by
  induction es with
  | nil => intro b o n e h hn; simp at hn
  | cons e0 es ih =>
    intro b o n e h hn
    simp only [CVV] at h
    cases n with
    | zero => simp at hn; subst hn; simpa using h.1
    | succ n =>
      simp at hn
      have := ih (fun e he => hsz e (by simp [he])) h.2 hn
      rw [hsz e0 (by simp)] at this
      rwa [show o + sz + n * sz = o + (n + 1) * sz by rw [Nat.add_mul]; omega] at this

theorem mul_lt_le {n len sz : Nat} (h : n < len) : n * sz + sz ≤ len * sz := by
  have : (n + 1) * sz ≤ len * sz := Nat.mul_le_mul_right _ h
  rw [Nat.add_mul] at this; omega

theorem indexAddrP_sound {P : Program} {ρ : Rho} {w : World} {t : TypeId} {x n v : PV} {xv nv : Value} (h : indexAddrP P t x n = some v) (hx : VR ρ w x xv) (hn : VR ρ w n nv) :
    ∃ val, (Instr.indexAt t xv nv).run P w = .ok val w ∧ VR ρ w v val := by
  unfold indexAddrP at h
  simp only [Option.bind_eq_some_iff] at h
  obtain ⟨k, hk, h⟩ := h
  obtain ⟨kd, i, rfl, hi0, hik⟩ := idx_int hk
  simp only [VR] at hn
  subst hn
  split at h
  · rename_i elem hu
    split at h
    case h_2 => cases h
    rename_i sz hsz
    split at h
    · rename_i d i' u off len sz' lim
      split at h
      case isFalse => cases h
      rename_i hc
      cases h
      obtain ⟨hc, rfl⟩ := hc
      simp only [VR] at hx ⊢
      obtain ⟨b, m, cap, h1, rfl, h3, h4, h5, h6⟩ := hx
      have hlt : i < (len : Int) := by omega
      have hm := mul_lt_le (sz := sz + 1) hc
      refine ⟨.pointer (some ⟨b, off + k * (sz + 1), none⟩), ?_, b, m, h1, rfl, by omega⟩
      simp [Instr.indexAt, asIntOf, run_underlying hu, hi0, hlt, run_sizeOf hsz, addr_add, hik]
    · rename_i es lim
      split at h
      case h_2 => cases h
      rename_i e he
      split at h
      case isFalse => cases h
      rename_i hel
      cases h
      simp only [VR] at hx ⊢
      obtain ⟨a, cap, rfl, h2, h3, ⟨sz0, h4⟩, h5⟩ := hx
      have hne : es ≠ [] := by intro e0; subst e0; simp at he
      obtain ⟨h6, h7, h8⟩ := h5 hne
      have hlt : i < (es.length : Int) := by
        have : k < es.length := by
          rcases Nat.lt_or_ge k es.length with h | h
          · exact h
          · rw [List.getElem?_eq_none h] at he; cases he
        omega
      have hs0 : sz0 = sz + 1 := by rw [← h4 e (List.mem_of_getElem? he)]; exact hel
      subst hs0
      have ha : a = ⟨a.block, a.off, none⟩ := by cases a; simp at h6; subst h6; rfl
      refine ⟨.pointer (some ⟨a.block, a.off + k * (sz + 1), none⟩), ?_, a.block, a.off + k * (sz + 1), rfl, h7, CV_elem h4 h8 he⟩
      rw [ha]
      simp [Instr.indexAt, asIntOf, run_underlying hu, hi0, hlt, run_sizeOf hsz, addr_add, hik]
    · cases h
  · rename_i len elem hu
    split at h
    case h_2 => cases h
    rename_i sz hsz
    split at h
    · split at h
      case isFalse => cases h
      rename_i hc
      cases h
      simp only [VR] at hx ⊢
      obtain ⟨b, m, h1, rfl, h3⟩ := hx
      have hlt : i < (len : Int) := by omega
      refine ⟨.pointer (some ⟨b, _ + k * (sz + 1), none⟩), ?_, b, m, h1, rfl, by omega⟩
      simp [Instr.indexAt, asIntOf, run_underlying hu, hi0, hlt, run_sizeOf hsz, addr_add, hik, Instr.sureAddr]
    · split at h
      case isFalse => cases h
      rename_i hc
      cases h
      simp only [VR] at hx ⊢
      obtain ⟨b, o, rfl, h2, h3⟩ := hx
      have hlt : i < (len : Int) := by omega
      refine ⟨.pointer (some ⟨b, o + k * (sz + 1), none⟩), ?_, b, o + k * (sz + 1), rfl, h2, CV_drop h3 _⟩
      simp [Instr.indexAt, asIntOf, run_underlying hu, hi0, hlt, run_sizeOf hsz, addr_add, hik, Instr.sureAddr]
    · cases h
  · cases h

theorem LV_drop {ρ : Rho} {w : World} {cs : List PV} {vs : List Value} (h : LV ρ w cs vs) (k : Nat) : LV ρ w (cs.drop k) (vs.drop k) := by
  have hl := LV_length _ _ h
  refine LV_of_get _ _ (by simp [hl]) fun j c v hj hv => ?_
  rw [List.getElem?_drop] at hj hv
  obtain ⟨v', h1, h2⟩ := LV_get _ _ h _ _ hj
  rw [hv] at h1; cases h1; exact h2
theorem LV_take {ρ : Rho} {w : World} {cs : List PV} {vs : List Value} (h : LV ρ w cs vs) (k : Nat) : LV ρ w (cs.take k) (vs.take k) := by
  have hl := LV_length _ _ h
  refine LV_of_get _ _ (by simp [hl]) fun j c v hj hv => ?_
  rw [List.getElem?_take] at hj hv
  split at hj
  · rename_i hk
    rw [if_pos hk] at hv
    obtain ⟨v', h1, h2⟩ := LV_get _ _ h _ _ hj
    rw [hv] at h1; cases h1; exact h2
  · cases hj

theorem partP_sound {P : Program} {ρ : Rho} {w : World} {t : TypeId} {cs : List PV} {vs : List Value} {off : Nat} {v : PV} (h : partP P t cs off = some v) (hl : LV ρ w cs vs) (h1 : ∀ u ∈ vs, u.oneCell' = true) :
    ∃ val, (part t vs.toArray off).run P w = .ok val w ∧ VR ρ w v val := by
  unfold partP at h
  simp only [Option.bind_eq_some_iff] at h
  obtain ⟨sz, hsz, h⟩ := h
  split at h
  · rename_i htg
    split at h
    case isFalse => cases h
    cases h
    refine ⟨.agg ((vs.drop off).take sz).toArray, ?_, ?_⟩
    · simp only [part, Sem.run_bind, run_isAgg htg, Result.andThen_ok, if_true, run_sizeOf hsz, Sem.run_pure]
      congr 2
      apply Array.ext'
      simp [List.extract_eq_take_drop]
    · simp only [VR]
      refine ⟨_, rfl, fun u hu => h1 u (List.mem_of_mem_drop (List.mem_of_mem_take hu)), LV_take (LV_drop hl _) _⟩
  · rename_i htg
    obtain ⟨u, hu, hr⟩ := LV_get _ _ hl _ _ h
    exact ⟨u, by simp [part, run_isAgg htg, hu], hr⟩
  · cases h

theorem indexP_sound {P : Program} {ρ : Rho} {w : World} {t : TypeId} {x n v : PV} {xv nv : Value} (h : indexP P t x n = some v) (hx : VR ρ w x xv) (hn : VR ρ w n nv) :
    ∃ val, (Instr.index t xv nv).run P w = .ok val w ∧ VR ρ w v val := by
  unfold indexP at h
  simp only [Option.bind_eq_some_iff] at h
  obtain ⟨k, hk, h⟩ := h
  obtain ⟨kd, i, rfl, hi0, hik⟩ := idx_int hk
  simp only [VR] at hn
  subst hn
  split at h
  · rename_i s hu
    simp only [VR] at hx
    subst hx
    simp only [Option.map_eq_some_iff] at h
    obtain ⟨b, hb, rfl⟩ := h
    refine ⟨.int .u8 b.toNat, ?_, by simp [VR]⟩
    simp [Instr.index, asIntOf, run_underlying hu, hi0, hik, hb]
  · rename_i len elem cs hu
    simp only [Option.bind_eq_some_iff] at h
    obtain ⟨sz, hsz, h⟩ := h
    split at h
    case isFalse => cases h
    rename_i hc
    simp only [VR] at hx
    obtain ⟨vs, rfl, h1, h2⟩ := hx
    obtain ⟨val, e1, e2⟩ := partP_sound (P := P) h h2 h1
    refine ⟨val, ?_, e2⟩
    have hlt : i < (len : Int) := by omega
    simp [Instr.index, asIntOf, run_underlying hu, hi0, hlt, hik, run_sizeOf hsz, e1]
  · cases h

theorem fieldP_sound {P : Program} {ρ : Rho} {w : World} {t : TypeId} {x v : PV} {xv : Value} {f : Nat} (h : fieldP P t x f = some v) (hx : VR ρ w x xv) :
    ∃ val, (Instr.field t xv f).run P w = .ok val w ∧ VR ρ w v val := by
  unfold fieldP at h
  split at h
  · rename_i fields cs hu
    simp only [Option.bind_eq_some_iff] at h
    obtain ⟨fl, hf, h⟩ := h
    simp only [VR] at hx
    obtain ⟨vs, rfl, h1, h2⟩ := hx
    obtain ⟨val, e1, e2⟩ := partP_sound (P := P) h h2 h1
    exact ⟨val, by simp [Instr.field, run_underlying hu, hf, asAgg, e1], e2⟩
  · cases h

theorem lenP_sound {P : Program} {ρ : Rho} {w : World} {t : TypeId} {x v : PV} {xv : Value} {ty : TypeId} {ats : Array TypeId} (hat : ats[0]? = some t) (h : lenP P t x = some v) (hx : VR ρ w x xv) :
    ∃ val, (Builtin.len_ ats ty #[xv]).run P w = .ok val w ∧ VR ρ w v val := by
  unfold lenP at h
  split at h
  · rename_i s hu
    cases h; simp only [VR] at hx ⊢; subst hx
    exact ⟨_, by simp [Builtin.len_, hat, run_underlying hu]; rfl, rfl⟩
  · rename_i n e hu
    cases h; simp only [VR]
    exact ⟨_, by simp [Builtin.len_, hat, run_underlying hu]; rfl, rfl⟩
  · rename_i e hu
    cases h; simp only [VR] at hx ⊢; subst hx
    exact ⟨_, by simp [Builtin.len_, hat, run_underlying hu]; rfl, rfl⟩
  · rename_i e d i u off len sz lim hu
    cases h; simp only [VR] at hx ⊢
    obtain ⟨b, n, cap, h1, rfl, _⟩ := hx
    exact ⟨_, by simp [Builtin.len_, hat, run_underlying hu]; rfl, rfl⟩
  · rename_i e es lim hu
    cases h; simp only [VR] at hx ⊢
    obtain ⟨a, cap, rfl, _⟩ := hx
    exact ⟨_, by simp [Builtin.len_, hat, run_underlying hu]; rfl, rfl⟩
  · cases h

end Go.Proofs.YtbcmiddffckgmaaDoor.Am
