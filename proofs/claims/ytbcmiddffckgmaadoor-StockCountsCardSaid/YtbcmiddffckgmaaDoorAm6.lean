/- append, copy, make. -/
import Derived.Test.YtbcmiddffckgmaaDoorAm5
set_option linter.unusedVariables false
set_option linter.unusedSimpArgs false
set_option linter.unnecessarySimpa false
namespace Go.Proofs.YtbcmiddffckgmaaDoor.Am
open Go

theorem all_len {es : List (List PV)} {sz : Nat} (h : (es.all fun e => e.length == sz) = true) : ∀ e ∈ es, e.length = sz := by
  intro e he
  have := List.all_eq_true.1 h e he
  simpa using this
theorem flat_len {es : List (List PV)} {sz : Nat} (h : ∀ e ∈ es, e.length = sz) : es.flatten.length = es.length * sz := by
  induction es with
  | nil => simp
  | cons e es ih => simp [h e (by simp), ih (fun x hx => h x (by simp [hx])), Nat.add_mul]; omega

/-- What a source reads as. -/
theorem src_sound {ρ : Rho} {H : Heap} {w : World} (hr : HRel ρ H w) {sz n : Nat} {x : PV} {xv : Value} {new : List PV} (h : srcCells H sz x = some (n, new)) (hx : VR ρ w x xv) :
    ∃ vals, LV ρ w new vals ∧ (∀ u ∈ vals, u.oneCell' = true) ∧ vals.length = n * sz ∧ new.length = n * sz ∧
      ((xv = .slice none 0 0 ∧ n = 0) ∨ ∃ ad c, xv = .slice (some ad) n c ∧ ∀ (j : Nat) (v : Value), vals[j]? = some v → w.cell? (ad.add j) = some v) := by
  unfold srcCells at h
  split at h
  · cases h; simp only [VR] at hx; subst hx
    exact ⟨[], by simp [LV], by simp, by simp, by simp, .inl ⟨rfl, rfl⟩⟩
  · simp only [Option.bind_eq_some_iff] at h
    obtain ⟨o, ho, h⟩ := h
    split at h
    case isFalse => cases h
    rename_i hc
    cases h
    simp only [VR] at hx
    obtain ⟨b, n', cap, h1, rfl, h3, h4, _⟩ := hx
    obtain ⟨hlo, hu, rfl, hle⟩ := hc
    obtain ⟨h5, h6⟩ := obj_cells hr ho h1 hlo h4
    obtain ⟨vs, e1, e2, e3, e4⟩ := CV_vals _ _ _ h5
    exact ⟨vs, e2, e3, by rw [e1, h6], h6, .inr ⟨_, cap, rfl, fun j v hj => by rw [addr_add]; exact e4 j v hj⟩⟩
  · rename_i es lim
    split at h
    case isFalse => cases h
    rename_i hc
    cases h
    have hl := all_len hc
    simp only [VR] at hx
    obtain ⟨a, cap, rfl, h2, h3, _, h5⟩ := hx
    by_cases he : es = []
    · subst he
      exact ⟨[], by simp [LV], by simp, by simp, by simp, .inr ⟨a, cap, rfl, by simp⟩⟩
    · obtain ⟨h6, h7, h8⟩ := h5 he
      rw [CVV_flat] at h8
      obtain ⟨vs, e1, e2, e3, e4⟩ := CV_vals _ _ _ h8
      have hf := flat_len hl
      have ha : a = ⟨a.block, a.off, none⟩ := by cases a; simp at h6; subst h6; rfl
      exact ⟨vs, e2, e3, by rw [e1, hf], hf, .inr ⟨a, cap, rfl, fun j v hj => by rw [ha, addr_add]; exact e4 j v hj⟩⟩
  · cases h

theorem run_append_zero {P : Program} {w : World} {t e ty : TypeId} {i : TypeInfo} (ht : P.underlying t = some (.slice e)) (hi : P.info? e = some i) {base : Option Addr} {sLen sCap : Nat} (hle : sLen ≤ sCap) {xv : Value}
    (hx : xv = .slice none 0 0 ∨ ∃ ad c, xv = .slice (some ad) 0 c) : (Builtin.append_ #[t, t] ty #[.slice base sLen sCap, xv]).run P w = .ok (.slice base sLen sCap) w := by
  rcases hx with rfl | ⟨ad, c, rfl⟩
  · cases base <;> simp [Builtin.append_, run_underlying ht, sizeOf, typeInfo, hi, Builtin.lenOf, hle, Builtin.firstCells, storeCells]
  · cases base <;> simp [Builtin.append_, run_underlying ht, sizeOf, typeInfo, hi, Builtin.lenOf, hle, Builtin.firstCells, storeCells, loadCells, loadCellsFrom]

theorem run_append_at {P : Program} {w : World} {t ty e : TypeId} {i : TypeInfo} (ht : P.underlying t = some (.slice e)) (hi : P.info? e = some i) {g off sLen sCap : Nat} {a : Addr} {m c : Nat} {news : List Value}
    (hl : news.length = m * i.size) (hnews : ∀ (j : Nat) (u : Value), news[j]? = some u → w.cell? (a.add j) = some u) (hroom : sLen + m ≤ sCap) {w' : World}
    (hst : (storeCells ⟨g, off + sLen * i.size, none⟩ news).run P w = .ok () w') :
    (Builtin.append_ #[t, t] ty #[.slice (some ⟨g, off, none⟩) sLen sCap, .slice (some a) m c]).run P w = .ok (.slice (some ⟨g, off, none⟩) (sLen + m) sCap) w' := by
  have hf := run_firstCells_some (P := P) w i.size m a m c news hl hnews
  simp [Builtin.append_, run_underlying ht, sizeOf, typeInfo, hi, Builtin.lenOf, hroom, hf, addr_add, hst]

theorem zero_size {P : Program} {t : TypeId} {z : PV} (h : tzero P t = some z) {i : TypeInfo} (hi : P.info? t = some i) : ∃ zv, i.zero = some zv ∧ zv.cells.size = (cellsOf z).length ∧ (∀ ρ w, VR ρ w z zv) ∧ isTup z = false := by
  obtain ⟨i', v, hi', hz, hv⟩ := tzero_info h
  rw [hi] at hi'; cases hi'
  have htup : isTup z = false := by
    unfold ofValue at hv
    split at hv
    · simp only [Option.map_eq_some_iff] at hv; obtain ⟨_, _, rfl⟩ := hv; rfl
    · cases hv
    · exact (ofCell_VR hv ⟨fun _ _ _ => none, fun _ => False, fun _ _ => False⟩ default).2.2.2
  refine ⟨v, hz, ?_, fun ρ w => ofValue_VR hv ρ w, htup⟩
  have hvr := ofValue_VR hv ⟨fun _ _ _ => none, fun _ => False, fun _ _ => False⟩ default
  have := LV_length _ _ (VR_cells hvr htup).1
  simp at this; omega

theorem roomOk_iff {n b : Nat} (h : roomOk n b = true) : n ≤ 9223372036854775807 ∧ n * b ≤ 140737488355328 := by
  unfold roomOk at h
  rw [Bool.and_eq_true] at h
  exact ⟨of_decide_eq_true h.1, of_decide_eq_true h.2⟩

theorem side_drew {w : World} {o : Obj} : Side w (w.drew.alloc o) := ⟨rfl, rfl, rfl⟩
theorem heap_drew_alloc {w : World} {o : Obj} : (w.drew.alloc o).heap = w.heap.push o := rfl

theorem appendP_sound {P : Program} {ρ : Rho} {H H' : Heap} {w : World} (hne : H ≠ []) (hr : HRel ρ H w) {t t2 ty : TypeId} {s x v : PV} {sv xv : Value} {wr : Wr}
    (h : appendP P H t t2 s x = some (v, H', wr)) (hs : VR ρ w s sv) (hx : VR ρ w x xv) : Outs P ρ w (Builtin.append_ #[t, t2] ty #[sv, xv]) v H' wr := by
  unfold appendP at h
  split at h
  case h_2 => cases h
  rename_i elem hu
  simp only [Option.bind_eq_some_iff] at h
  obtain ⟨sz, hsz, by_, hby, z, hz, h⟩ := h
  split at h
  case isTrue => cases h
  rename_i hc
  simp only [not_or, Decidable.not_not] at hc
  obtain ⟨hsz0, hzl, rfl⟩ := hc
  simp only [Option.bind_eq_some_iff] at h
  obtain ⟨⟨n, new⟩, hsrc, h⟩ := h
  simp only at h
  obtain ⟨i, hi, rfl⟩ := tsz_info hsz
  have hbyi : by_ = i.bytes := by unfold tby at hby; simp [hi] at hby; exact hby.symm
  subst hbyi
  obtain ⟨zv, hzv, hzc, hzvr, hzt⟩ := zero_size hz hi
  have hzs : zv.cells.size = i.size := hzc.trans hzl
  obtain ⟨vals, q1, q2, q3, q3', q4⟩ := src_sound hr hsrc hx
  have hzero : n = 0 → xv = .slice none 0 0 ∨ ∃ ad c, xv = .slice (some ad) 0 c := by
    intro hn; subst hn
    rcases q4 with ⟨h, _⟩ | ⟨ad, c, h, _⟩
    · exact .inl h
    · exact .inr ⟨ad, c, h⟩
  have hsome : ¬ n = 0 → ∃ ad c, xv = .slice (some ad) n c ∧ ∀ (j : Nat) (v : Value), vals[j]? = some v → w.cell? (ad.add j) = some v := by
    intro hn
    rcases q4 with ⟨_, h⟩ | h
    · exact absurd h hn
    · exact h
  have made : ∀ (olds : List PV) (oldv : List Value) (k cap : Nat) (arr : Array Value), LV ρ w olds oldv → (∀ u ∈ oldv, u.oneCell' = true) → oldv.length = k * i.size → k + n ≤ cap →
      arr = oldv.toArray ++ vals.toArray ++ Builtin.zeroCells zv.cells (cap - (k + n)) →
      (Builtin.append_ #[t2, t2] ty #[sv, xv]).run P w = .ok (.slice (some ⟨w.heap.size, 0, none⟩) (k + n) cap) (w.drew.alloc (.cells arr elem)) →
      Outs P ρ w (Builtin.append_ #[t2, t2] ty #[sv, xv]) (.sl (curD H) (curN H) 0 0 (k + n) i.size false) (newO H (olds ++ new)) [] := by
    intro olds oldv k cap arr hlo ho1 hol hcap harr hrun
    have hlo' := LV_length _ _ hlo
    have hl := LV_append _ _ _ _ hlo q1
    have hall : ∀ u ∈ oldv ++ vals, u.oneCell' = true := fun u hu => (List.mem_append.1 hu).elim (ho1 u) (q2 u)
    have harl : arr.toList.take (olds ++ new).length = oldv ++ vals := by
      subst harr
      simp only [Array.toList_append, List.length_append, hlo', q3', ← q3]
      rw [← List.length_append]
      exact List.take_left
    obtain ⟨ρ', r1, r2, r3, r4⟩ := newO_sound hne hr (heap_drew_alloc (o := .cells arr elem)) side_drew hl hall harl
    refine ⟨_, _, ρ', hrun, r1, r2, VR_sl ⟨_, _, cap, r3, rfl, hcap, ?_, (fun e => by cases e), fun _ => ⟨?_, ?_⟩⟩, r4 _⟩
    · simp [hlo', hol, q3', Nat.add_mul]
    · simp only [List.length_append, hlo', hol, q3', ← Nat.add_mul, Nat.zero_add]; exact Nat.mul_le_mul_right _ hcap
    · rw [bsize_push (heap_drew_alloc (o := .cells arr elem))]
      subst harr
      simp only [Array.size_append, List.size_toArray, hol, q3, size_zeroCells, hzs, ← Nat.add_mul, Nat.zero_add]
      exact Nat.mul_le_mul_right _ (by omega)
  split at h
  · -- nil
    simp only [VR] at hs
    subst hs
    split at h
    · rename_i hn
      cases h
      exact Outs.pure hr (run_append_zero hu hi (Nat.le_refl _) (hzero hn)) (by simp [VR])
    · rename_i hn
      split at h
      case isFalse => cases h
      rename_i hroom
      cases h
      obtain ⟨ad, c, rfl, hcell⟩ := hsome hn
      obtain ⟨hr1, hr2⟩ := roomOk_iff hroom
      have hrun := run_append_nil (P := P) w t2 ty elem i zv hu hi hzv ad n c vals q3 hcell (by omega) (by omega) (by omega)
      have := made [] [] 0 (grownCap w n 0 elem) _ (by simp [LV]) (by simp) (by simp) (by have := grownCap_ge w n 0 elem; omega) rfl (by simpa using hrun)
      simpa using this
  · -- a tree
    rename_i es lim
    have hs' := hs
    simp only [VR] at hs
    obtain ⟨a, cap, rfl, g2, g3, ⟨sz0, g4⟩, g5⟩ := hs
    split at h
    · rename_i hn
      cases h
      exact Outs.pure hr (run_append_zero hu hi g2 (hzero hn)) hs'
    · rename_i hn
      split at h
      case isFalse => cases h
      rename_i hcc
      obtain ⟨rfl, hall, hroom⟩ := hcc
      cases h
      obtain ⟨ad, c, rfl, hcell⟩ := hsome hn
      obtain ⟨hr1, hr2⟩ := roomOk_iff hroom
      have hcap := g3 rfl
      subst hcap
      have hl := all_len hall
      obtain ⟨oldv, h1, h2, h3, h4⟩ : ∃ oldv, LV ρ w es.flatten oldv ∧ (∀ u ∈ oldv, u.oneCell' = true) ∧ oldv.length = es.length * i.size ∧ ∀ (j : Nat) (v : Value), oldv[j]? = some v → w.cell? (a.add j) = some v := by
        by_cases he : es = []
        · subst he; exact ⟨[], by simp [LV], by simp, by simp, by simp⟩
        · obtain ⟨g6, g7, g8⟩ := g5 he
          rw [CVV_flat] at g8
          obtain ⟨vs, e1, e2, e3, e4⟩ := CV_vals _ _ _ g8
          have ha : a = ⟨a.block, a.off, none⟩ := by cases a; simp at g6; subst g6; rfl
          exact ⟨vs, e2, e3, by rw [e1, flat_len hl], fun j v hj => by rw [ha, addr_add]; exact e4 j v hj⟩
      have hrun := run_append_grow (P := P) w t2 ty elem i zv hu hi hzv a es.length es.length oldv h3 h4 ad n c vals q3 hcell (by omega) (by omega) (growslice_fits (by omega) hr2)
      exact made es.flatten oldv es.length _ _ h1 h2 h3 (grownCap_ge w (es.length + n) es.length elem) rfl hrun
  · -- a slice of an object
    rename_i d i' u off len sz' lim
    have hs' := hs
    simp only [VR] at hs
    obtain ⟨b, m, cap, g1, rfl, g3, g4, g5, g6⟩ := hs
    split at h
    case isTrue => cases h
    rename_i hszz
    simp only [Decidable.not_not] at hszz
    subst hszz
    split at h
    · rename_i hn
      cases h
      exact Outs.pure hr (run_append_zero hu hi g3 (hzero hn)) hs'
    · rename_i hn
      obtain ⟨ad, c, rfl, hcell⟩ := hsome hn
      simp only [Option.bind_eq_some_iff] at h
      obtain ⟨o, ho, h⟩ := h
      have hnpos : 0 < n := by omega
      split at h
      · rename_i hlim
        split at h
        case isFalse => cases h
        rename_i hcc
        obtain ⟨hlo, huv, hfit, hroom⟩ := hcc
        cases h
        obtain ⟨hr1, hr2⟩ := roomOk_iff hroom
        have hcap := g5 hlim
        subst hcap
        obtain ⟨h5, h6⟩ := obj_cells hr ho g1 hlo g4
        obtain ⟨oldv, e1, e2, e3, e4⟩ := CV_vals _ _ _ h5
        have hrun := run_append_grow (P := P) w t2 ty elem i zv hu hi hzv ⟨b, off, none⟩ cap cap oldv (by rw [e1, h6]) (fun j v hj => by rw [addr_add]; exact e4 j v hj) ad n c vals q3 hcell (by omega) (by omega) (growslice_fits (by omega) hr2)
        exact made _ oldv cap _ _ e2 e3 (by rw [e1, h6]) (grownCap_ge w (cap + n) cap elem) rfl hrun
      · rename_i hlim
        have hlim' : lim = false := by simpa using hlim
        obtain ⟨g7, g8⟩ := g6 hlim'
        obtain ⟨o1, ho1, hov, hnl, hn1, hcv, hdl, hlv⟩ := hr.obj _ _ _ _ _ g1
        rw [ho] at ho1; cases ho1
        obtain ⟨cur, tyy, hcur, hcsz⟩ := hr.block _ _ _ _ _ g1
        have hbs : bsize w b = cur.size := by simp [bsize, hcur]
        split at h
        · rename_i hcc
          obtain ⟨rfl, rfl, hlen⟩ := hcc
          split at h
          case isFalse => cases h
          rename_i hroom
          obtain ⟨hroom, hdd⟩ := hroom
          cases h
          obtain ⟨hr1, hr2⟩ := roomOk_iff hroom
          have hm : m = o.cells.length := hn1 rfl
          have hdle : dleL d new = true := by
            rcases hdd with hdd | hdd
            · cases H with
              | nil => exact absurd rfl hne
              | cons f fs =>
                have := LV.dle hr.dom _ _ q1
                rw [hdd]; simpa [curD] using this
            · exact hdd
          have hnewl : new.length = n * i.size := q3'
          by_cases hroomc : len + n ≤ cap
          · -- in its block
            have hfit : o.cells.length + new.length ≤ cur.size := by
              rw [← hlen, hnewl, ← Nat.add_mul]
              have := Nat.mul_le_mul_right i.size hroomc
              omega
            have hst := run_storeCells_at P b (len * i.size) tyy vals 0 cur w hcur (by rw [q3]; omega) q2
            simp only [Nat.add_zero] at hst
            have hw := wrote_setRow (off := len * i.size) hcur (vals := vals) (by rw [q3]; omega)
            obtain ⟨r1, r2⟩ := hr.growHere ho g1 hw q1 q2 (fun j => by
              have := seg_get cur.toList vals (len * i.size) j (by simp; rw [q3]; omega)
              rw [← hlen, hnewl, ← q3]
              simpa using this) hdle hfit
            refine ⟨_, _, _, run_append_at hu hi q3 hcell hroomc (by simpa using hst), r1, r2, VR_sl ⟨b, o.cells.length + new.length, cap, by simp [updR_at], rfl, hroomc, ?_, (fun e => by cases e), fun _ => ⟨?_, ?_⟩⟩, fun k hk => ?_⟩
            · rw [← hlen, hnewl, ← Nat.add_mul]; omega
            · rw [← hlen, hnewl, ← Nat.add_mul, Nat.zero_add]; exact Nat.mul_le_mul_right _ hroomc
            · have : bsize (w.setRow b (cur.toList.take (len * i.size) ++ vals ++ cur.toList.drop (len * i.size + vals.length)).toArray) b = cur.size := by
                simp only [bsize, hw.new]; exact hw.len
              rw [this, ← hbs]; exact g8
            · by_cases e : k = b
              · subst e; exact .inr ⟨d, i', o.ver, m, g1, by simp⟩
              · exact .inl (hw.same k e)
          · -- it moves
            obtain ⟨oldv, e1, e2, e3, e4⟩ := CV_vals _ _ _ (hcv hlv)
            have htk : o.cells.take m = o.cells := by rw [hm]; exact List.take_length
            rw [htk] at e1 e2
            have hol : oldv.length = len * i.size := by rw [e1, hlen]
            have hrun := run_append_grow (P := P) w t2 ty elem i zv hu hi hzv ⟨b, 0, none⟩ len cap oldv hol (fun j v hj => by rw [addr_add]; exact e4 j v hj) ad n c vals q3 hcell (by omega) (by omega) (growslice_fits (by omega) hr2)
            have hcg := grownCap_ge w (len + n) cap elem
            obtain ⟨r1, r2⟩ := hr.growAway ho g1 (heap_drew_alloc (o := .cells (oldv.toArray ++ vals.toArray ++ Builtin.zeroCells zv.cells (grownCap w (len + n) cap elem - (len + n))) elem)) side_drew (LV_append _ _ _ _ e2 q1)
              (fun u hu => (List.mem_append.1 hu).elim (e3 u) (q2 u)) (by
                simp only [Array.toList_append]
                rw [← e1, hnewl, ← q3, ← List.length_append]
                exact List.take_left) hdle
            refine ⟨_, _, _, hrun, r1, r2, VR_sl ⟨w.heap.size, o.cells.length + new.length, _, by simp [updR_at], rfl, hcg, ?_, (fun e => by cases e), fun _ => ⟨?_, ?_⟩⟩, fun k hk => .inl (heap_push_old heap_drew_alloc hk)⟩
            · rw [← hlen, hnewl, ← Nat.add_mul]; omega
            · rw [← hlen, hnewl, ← Nat.add_mul, Nat.zero_add]; exact Nat.mul_le_mul_right _ hcg
            · rw [bsize_push heap_drew_alloc]
              simp only [Array.size_append, List.size_toArray, hol, q3, size_zeroCells, hzs, ← Nat.add_mul, Nat.zero_add]
              exact Nat.mul_le_mul_right _ (by omega)
        · rename_i hcc
          split at h
          case isFalse => cases h
          rename_i hin
          simp only [Option.map_eq_some_iff] at h
          obtain ⟨⟨H2, wr2⟩, hst, h⟩ := h
          cases h
          have hst' := hst
          unfold storeC at hst'
          simp only [Option.bind_eq_some_iff] at hst'
          obtain ⟨o2, ho2, hst'⟩ := hst'
          rw [ho] at ho2; cases ho2
          split at hst'
          case isFalse => cases hst'
          rename_i hcond
          have hu' := hcond.1
          subst hu'
          have hm : m = o.cells.length := hn1 rfl
          obtain ⟨w', e1, e2, e3, e4⟩ := storeC_sound (P := P) hr hst g1 (by omega) q1 q2
          have hroomc : len + n ≤ cap := by
            have h1 : off + (len + n) * i.size ≤ off + cap * i.size := by
              rw [Nat.add_mul, ← Nat.add_assoc]; rw [q3'] at hin; omega
            have h2 : (len + n) * i.size ≤ cap * i.size := by omega
            exact Nat.le_of_mul_le_mul_right h2 (by omega)
          refine ⟨_, w', ρ, run_append_at hu hi q3 hcell hroomc e1, e2, e3, VR_sl ⟨b, m, cap, g1, rfl, hroomc, ?_, (fun e => by cases e), fun _ => ⟨g7, e3.bsize g1 _ g8⟩⟩, e4⟩
          rw [Nat.add_mul, ← Nat.add_assoc, hm]; rw [q3'] at hin; omega
  · cases h

theorem take_lv {vals : List Value} {new : List PV} {ρ : Rho} {w : World} (h : LV ρ w new vals) (h1 : ∀ u ∈ vals, u.oneCell' = true) (k : Nat) : LV ρ w (new.take k) (vals.take k) ∧ ∀ u ∈ vals.take k, u.oneCell' = true :=
  ⟨LV_take h k, fun u hu => h1 u (List.mem_of_mem_take hu)⟩

theorem copyP_sound {P : Program} {ρ : Rho} {H H' : Heap} {w : World} (hr : HRel ρ H w) {t ty : TypeId} {ats : Array TypeId} (hat : ats[0]? = some t) {dst src v : PV} {dv sv : Value} {wr : Wr}
    (h : copyP P H t dst src = some (v, H', wr)) (hd : VR ρ w dst dv) (hs : VR ρ w src sv) : Outs P ρ w (Builtin.copy_ ats ty #[dv, sv]) v H' wr := by
  unfold copyP at h
  split at h
  case h_2 => cases h
  rename_i elem hu
  simp only [Option.bind_eq_some_iff] at h
  obtain ⟨sz, hsz, h⟩ := h
  split at h
  case isTrue => cases h
  rename_i hsz0
  simp only [Option.bind_eq_some_iff] at h
  obtain ⟨⟨n, cells⟩, hsrc, h⟩ := h
  simp only at h
  obtain ⟨vals, q1, q2, q3, q3', q4⟩ := src_sound hr hsrc hs
  have hsize := run_sizeOf hsz w
  have hsl : (Builtin.lenOf sv).run P w = .ok n w := by
    rcases q4 with ⟨rfl, rfl⟩ | ⟨ad, c, rfl, _⟩ <;> simp [Builtin.lenOf]
  have hfc : ∀ k, k ≤ n → (Builtin.firstCells sz k sv).run P w = .ok (vals.take (k * sz)).toArray w := by
    intro k hk
    have hmul : k * sz ≤ n * sz := Nat.mul_le_mul_right _ hk
    rcases q4 with ⟨rfl, rfl⟩ | ⟨ad, c, rfl, h4⟩
    · have : vals = [] := List.eq_nil_of_length_eq_zero (by simpa using q3)
      subst this; simp [Builtin.firstCells]
    · refine run_firstCells_some (P := P) w sz k ad n c (vals.take (k * sz)) (by rw [List.length_take, q3]; omega) fun j v hj => h4 j v ?_
      rw [List.getElem?_take] at hj; split at hj
      · exact hj
      · cases hj
  split at h
  · cases h
    simp only [VR] at hd; subst hd
    refine Outs.pure hr (val := .int .i64 0) ?_ (by simp [VR])
    have := hfc 0 (Nat.zero_le _)
    simp [Builtin.copy_, hat, run_underlying hu, hsl, hsize, this, goInt]
  · rename_i d i u off len sz' lim
    split at h
    case isTrue => cases h
    rename_i hszz
    simp only [Decidable.not_not] at hszz
    subst hszz
    simp only [VR] at hd
    obtain ⟨b, m, cap, g1, rfl, g3, g4, g5, g6⟩ := hd
    split at h
    · rename_i h0
      cases h
      refine Outs.pure hr (val := .int .i64 0) ?_ (by simp [VR])
      have h0' : Nat.min n len = 0 := h0
      have := hfc 0 (Nat.zero_le _)
      simp only [Nat.zero_mul, List.take_zero] at this
      simp [Builtin.copy_, hat, run_underlying hu, hsl, hsize, h0', this, goInt, storeCells]
    · simp only [Option.map_eq_some_iff] at h
      obtain ⟨⟨H2, wr2⟩, hst, h⟩ := h
      cases h
      obtain ⟨hl, h1⟩ := take_lv q1 q2 (min n len * sz')
      obtain ⟨w', e1, e2, e3, e4⟩ := storeC_sound (P := P) hr hst g1 g4 hl h1
      refine ⟨.int .i64 (min n len : Nat), w', ρ, ?_, e2, e3, by simp [VR], e4⟩
      have hmin : Nat.min n len ≤ n := Nat.min_le_left _ _
      have := hfc _ hmin
      have hmm : Nat.min n len = min n len := rfl
      simp [Builtin.copy_, hat, run_underlying hu, hsl, hsize, this, hmm, e1, goInt]
  · cases h

theorem repl_length (n : Nat) (cs : List PV) : (repl n cs).length = n * cs.length := by
  unfold repl; simp [List.length_flatten]

theorem repl_get (n : Nat) (cs : List PV) : ∀ (j : Nat), j < n * cs.length → (repl n cs)[j]? = cs[j % cs.length]? := by
  unfold repl
  induction n with
  | zero => intro j h; simp at h
  | succ n ih =>
    intro j h
    rw [List.replicate_succ, List.flatten_cons]
    rw [Nat.add_mul] at h
    have hpos : 0 < cs.length := by
      rcases Nat.eq_zero_or_pos cs.length with h0 | h0
      · rw [h0] at h; omega
      · exact h0
    rcases Nat.lt_or_ge j cs.length with h1 | h1
    · rw [List.getElem?_append_left h1, Nat.mod_eq_of_lt h1]
    · rw [List.getElem?_append_right h1, ih _ (by omega), Nat.mod_eq_sub_mod h1]

theorem LV_repl {ρ : Rho} {w : World} {cs : List PV} {zc : Array Value} (h : LV ρ w cs zc.toList) (n : Nat) : LV ρ w (repl n cs) (((Array.range (n * zc.size)).map (zc[· % zc.size]!)).toList) := by
  have hl := LV_length _ _ h
  simp at hl
  refine LV_of_get _ _ (by rw [repl_length]; simp [hl]) fun j c v hj hv => ?_
  have hlt : j < n * cs.length := by
    rw [← repl_length]
    rcases Nat.lt_or_ge j (repl n cs).length with h | h
    · exact h
    · rw [List.getElem?_eq_none h] at hj; cases hj
  rw [repl_get _ _ _ hlt] at hj
  obtain ⟨u, h1, h2⟩ := LV_get _ _ h _ _ hj
  have hpos : 0 < zc.size := by
    rcases Nat.eq_zero_or_pos zc.size with h0 | h0
    · rw [hl, h0] at hlt; omega
    · exact h0
  have hm : j % zc.size < zc.size := Nat.mod_lt _ hpos
  rw [hl] at h1
  simp [hm] at h1
  simp only [Array.toList_map, Array.toList_range, List.getElem?_map, List.getElem?_range] at hv
  rw [hl] at hlt
  simp [hlt, hm] at hv
  rw [← hv, h1]; exact h2

theorem all_repl {zc : Array Value} (h : ∀ u ∈ zc.toList, u.oneCell' = true) (n : Nat) : ∀ u ∈ ((Array.range (n * zc.size)).map (zc[· % zc.size]!)).toList, u.oneCell' = true := by
  intro u hu
  simp only [Array.toList_map, Array.toList_range, List.mem_map, List.mem_range] at hu
  obtain ⟨j, hj, rfl⟩ := hu
  have hpos : 0 < zc.size := by
    rcases Nat.eq_zero_or_pos zc.size with h0 | h0
    · rw [h0] at hj; omega
    · exact h0
  have hm : j % zc.size < zc.size := Nat.mod_lt _ hpos
  simp only [hm, getElem!_pos]
  exact h _ (by simp)

theorem makeSliceP_sound {P : Program} {ρ : Rho} {H H' : Heap} {w : World} (hne : H ≠ []) (hr : HRel ρ H w) {t : TypeId} {l c v : PV} {lv cv : Value} (wr : Wr)
    (h : makeSliceP P H t l c = some (v, H')) (hl : VR ρ w l lv) (hc : VR ρ w c cv) : Outs P ρ w (Instr.makeSlice t lv cv) v H' wr := by
  unfold makeSliceP at h
  split at h
  case h_2 => cases h
  rename_i elem hu
  simp only [Option.bind_eq_some_iff] at h
  obtain ⟨sz, hsz, by_, hby, z, hz, h⟩ := h
  split at h
  case h_2 => cases h
  rename_i kl l kc c
  split at h
  case isFalse => cases h
  rename_i hcc
  obtain ⟨hsz0, hzl, h0, hlc, hroom⟩ := hcc
  cases h
  simp only [VR] at hl hc
  subst hl; subst hc
  obtain ⟨i, hi, rfl⟩ := tsz_info hsz
  have hbyi : by_ = i.bytes := by unfold tby at hby; simp [hi] at hby; exact hby.symm
  subst hbyi
  obtain ⟨zv, hzv, hzc, hzvr, hzt⟩ := zero_size hz hi
  have hzs : zv.cells.size = i.size := hzc.trans hzl
  obtain ⟨hr1, hr2⟩ := roomOk_iff hroom
  have hc0 : (c.toNat : Int) = c := Int.toNat_of_nonneg (by omega)
  have hbytes : (i.bytes : Int) * c ≤ 281474976710656 := by
    have h3 : i.bytes * c.toNat ≤ 140737488355328 := by rw [Nat.mul_comm]; exact hr2
    have h4 : ((i.bytes * c.toNat : Nat) : Int) ≤ 140737488355328 := Int.ofNat_le.2 h3
    rw [Int.natCast_mul, hc0] at h4
    omega
  have hrun := run_make (P := P) w t elem i zv hu hi hzv kl kc l c h0 hlc hbytes (by omega)
  obtain ⟨hz1, hz2⟩ := VR_cells (hzvr ρ w) hzt
  have hlv := LV_repl hz1 c.toNat
  have hall := all_repl hz2 c.toNat
  rw [hzs] at hlv hall
  have hlen : (repl c.toNat (cellsOf z)).length = c.toNat * i.size := by rw [repl_length, hzl]
  have harr : (madeCells zv.cells (c.toNat * i.size)).toList = ((Array.range (c.toNat * i.size)).map (zv.cells[· % i.size]!)).toList := by simp [madeCells, hzs]
  obtain ⟨ρ', r1, r2, r3, r4⟩ := newO_sound (w' := w.alloc (.cells (madeCells zv.cells (c.toNat * i.size)) elem)) hne hr rfl ⟨rfl, rfl, rfl⟩ hlv hall (by
    rw [hlen, harr, List.take_of_length_le]; simp)
  have hll : l.toNat ≤ c.toNat := by omega
  have hmul := Nat.mul_le_mul_right i.size hll
  refine ⟨_, _, ρ', hrun, r1, r2, VR_sl ⟨_, _, c.toNat, r3, rfl, hll, by rw [hlen]; omega, fun e => ?_, fun e => ⟨by rw [hlen]; omega, ?_⟩⟩, r4 wr⟩
  · have := of_decide_eq_true e; omega
  · rw [bsize_push (w := w) (w' := w.alloc (.cells (madeCells zv.cells (c.toNat * i.size)) elem)) rfl, size_madeCells]; omega

end Go.Proofs.YtbcmiddffckgmaaDoor.Am
