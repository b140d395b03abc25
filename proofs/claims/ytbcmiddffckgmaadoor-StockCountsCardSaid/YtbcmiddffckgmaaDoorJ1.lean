/- The fewest blocks: the plain law, and the reference. -/
import Derived.Test.YtbcmiddffckgmaaDoorS8
import Derived.Test.YtbcmiddffckgmaaDoorS14
set_option linter.unusedVariables false
set_option linter.unusedSimpArgs false
set_option linter.unnecessarySimpa false
namespace Go.Proofs.YtbcmiddffckgmaaDoor.Am
open Go

/-- The first stack of k blocks for n, of the blocks from one on. -/
def fk : List Int → Nat → Nat → Int → Option (List Nat)
  | [], _, 0, n => if n = 0 then some [] else none
  | [], _, _ + 1, _ => none
  | _ :: _, _, 0, n => if n = 0 then some [] else none
  | x :: a, off, k + 1, n => match fk a (off + 1) k (n - x) with
    | some s => some (off :: s)
    | none => fk a (off + 1) (k + 1) n
/-- The least number of blocks, 258 if there is none. -/
def fN : List Int → Int → Nat
  | [], n => if n = 0 then 0 else 258
  | x :: a, n => min (min (fN a n) ((if x ≤ n then fN a (n - x) else 258) + 1)) 258
/-- The walk along the table. -/
def fG : List Int → Nat → Int → List Nat
  | [], _, _ => []
  | x :: a, off, n => if x ≤ n ∧ fN a (n - x) + 1 = fN (x :: a) n then off :: fG a (off + 1) (n - x) else fG a (off + 1) n
def Pos (a : List Int) : Prop := ∀ x ∈ a, 0 < x
theorem Pos.tail {x a} (h : Pos (x :: a)) : Pos a := fun y hy => h y (by simp [hy])
theorem Pos.head {x a} (h : Pos (x :: a)) : 0 < x := h x (by simp)
theorem fk_zero {a off n} : fk a off 0 n = if n = 0 then some [] else none := by cases a <;> rfl
theorem fk_nonneg : ∀ {a : List Int} {off k : Nat} {n : Int} {s}, Pos a → fk a off k n = some s → 0 ≤ n
  | a, off, 0, n, s, _, h => by
    rw [fk_zero] at h
    split at h
    · omega
    · cases h
  | [], off, k + 1, n, s, _, h => by cases h
  | x :: a, off, k + 1, n, s, hp, h => by
    rw [fk] at h
    split at h
    · rename_i s' hs
      have := fk_nonneg hp.tail hs
      have := hp.head
      omega
    · exact fk_nonneg hp.tail h
theorem fN_le {a : List Int} : ∀ {off k : Nat} {n : Int} {s}, Pos a → fk a off k n = some s → fN a n ≤ k := by
  induction a with
  | nil =>
    intro off k n s _ h
    cases k with
    | zero =>
      rw [fk_zero] at h
      split at h
      · rename_i h0; simp [fN, h0]
      · cases h
    | succ k => cases h
  | cons x a ih =>
    intro off k n s hp h
    cases k with
    | zero =>
      rw [fk_zero] at h
      split at h
      · rename_i h0
        subst h0
        have := ih (off := 0) (k := 0) (n := 0) (s := []) hp.tail (by rw [fk_zero]; rfl)
        rw [fN]
        omega
      · cases h
    | succ k =>
      rw [fk] at h
      split at h
      · rename_i s' hs
        have h1 := fk_nonneg hp.tail hs
        have h2 := ih hp.tail hs
        rw [fN, if_pos (by omega)]
        omega
      · have h2 := ih hp.tail h
        rw [fN]
        omega
theorem fk_of_fN {a : List Int} : ∀ {off : Nat} {n : Int}, Pos a → fN a n < 258 → fk a off (fN a n) n = some (fG a off n) := by
  induction a with
  | nil =>
    intro off n _ h
    rw [fN] at h ⊢
    split at h
    · rename_i h0; rw [if_pos h0, fk_zero, if_pos h0, fG]
    · omega
  | cons x a ih =>
    intro off n hp h
    have hpt := hp.tail
    by_cases ht : x ≤ n ∧ fN a (n - x) + 1 = fN (x :: a) n
    · rw [fG, if_pos ht, ← ht.2, fk, ih hpt (by omega)]
    · rw [fG, if_neg ht]
      have hm : fN (x :: a) n = fN a n := by
        have h0 := h
        rw [fN] at h0 ⊢
        by_cases hx : x ≤ n
        · rw [if_pos hx] at h0 ⊢
          have : ¬ fN a (n - x) + 1 = fN (x :: a) n := fun e => ht ⟨hx, e⟩
          rw [fN, if_pos hx] at this
          omega
        · rw [if_neg hx] at h0 ⊢
          omega
      have hlt : fN a n < 258 := by rw [← hm]; exact h
      have hi := ih (off := off + 1) hpt hlt
      rw [hm]
      cases hk : fN a n with
      | zero =>
        rw [hk, fk_zero] at hi
        rw [fk_zero]
        split at hi
        · rename_i h0; rw [if_pos h0, hi]
        · cases hi
      | succ m =>
        rw [fk]
        rw [hk] at hi
        cases hs : fk a (off + 1) m (n - x) with
        | none => exact hi
        | some s =>
          have h1 := fk_nonneg hpt hs
          have h2 := fN_le hpt hs
          have hx : x ≤ n := by omega
          have h3 : fN (x :: a) n ≤ fN a (n - x) + 1 := by rw [fN, if_pos hx]; omega
          exact absurd ⟨hx, by omega⟩ ht
/-- The first stack of the fewest blocks. -/
def fewest (a : List Int) (n : Int) : Option (List Nat) := if fN a n < 258 then some (fG a 0 n) else none

/-! ### All stacks -/
def lev : List Int → Nat → Nat → List (List Nat)
  | _, _, 0 => [[]]
  | [], _, _ + 1 => []
  | _ :: a, off, k + 1 => (lev a (off + 1) k).map (off :: ·) ++ lev a (off + 1) (k + 1)
def tot (set : List Int) (s : List Nat) : Int := (s.map fun i => set.getD i 0).sum
theorem find_lev (set : List Int) (n : Int) : ∀ (a pre : List Int) (k : Nat) (m : Int), set = pre ++ a → (lev a pre.length k).find? (fun s => m + tot set s == n) = fk a pre.length k (n - m)
  | a, pre, 0, m, h => by
    rw [fk_zero]
    have : lev a pre.length 0 = [[]] := by cases a <;> rfl
    rw [this]
    by_cases e : n - m = 0
    · rw [if_pos e]; simp [tot]; omega
    · rw [if_neg e]; simp [tot]; omega
  | [], pre, k + 1, m, h => rfl
  | x :: a, pre, k + 1, m, h => by
    have h' : set = (pre ++ [x]) ++ a := by simp [h]
    have ih1 := find_lev set n a (pre ++ [x]) k (m + x) h'
    have ih2 := find_lev set n a (pre ++ [x]) (k + 1) m h'
    rw [List.length_append, List.length_singleton] at ih1 ih2
    have hx : set.getD pre.length 0 = x := by subst h; simp
    rw [lev, fk, List.find?_append, ih2, List.find?_map]
    have hf : ((fun s => m + tot set s == n) ∘ fun s => pre.length :: s) = fun s => m + x + tot set s == n := by
      funext s
      simp only [Function.comp, tot, List.map_cons, List.sum_cons, hx, Int.add_assoc]
    rw [hf, ih1, show n - (m + x) = n - m - x by omega]
    cases fk a (pre.length + 1) k (n - m - x) <;> rfl
/-- All stacks of at most so many blocks, in order. -/
def stacks (set : List Int) (k : Nat) : List (List Nat) := (List.range k).flatMap fun j => lev set 0 j
theorem lev_none {a : List Int} : ∀ {off k : Nat}, a.length < k → lev a off k = [] := by
  induction a with
  | nil => intro off k h; cases k with | zero => simp at h | succ k => rfl
  | cons x a ih =>
    intro off k h
    cases k with
    | zero => simp at h
    | succ k =>
      rw [lev, ih (by simp at h; omega), ih (by simp at h; omega)]; rfl
theorem fk_len {a : List Int} : ∀ {off k : Nat} {n : Int} {s}, fk a off k n = some s → k ≤ a.length := by
  induction a with
  | nil => intro off k n s h; cases k with | zero => simp | succ k => cases h
  | cons x a ih =>
    intro off k n s h
    cases k with
    | zero => simp
    | succ k =>
      rw [fk] at h
      split at h
      · rename_i s' hs; have := ih hs; simp; omega
      · have := ih h; simp; omega
theorem find_stacks (set : List Int) (hp : Pos set) (hn : set.length ≤ 257) (n : Int) : ∀ k, (stacks set k).find? (fun s => tot set s == n) = if fN set n < 258 ∧ fN set n < k then some (fG set 0 n) else none := by
  intro k
  induction k with
  | zero => simp [stacks]
  | succ k ih =>
    have hs : stacks set (k + 1) = stacks set k ++ lev set 0 k := by
      unfold stacks; rw [List.range_succ, List.flatMap_append]; simp
    rw [hs, List.find?_append, ih]
    have hl : (lev set 0 k).find? (fun s => tot set s == n) = fk set 0 k n := by
      have := find_lev set n set [] k 0 rfl
      simpa using this
    rw [hl]
    by_cases h : fN set n < 258 ∧ fN set n < k
    · rw [if_pos h, if_pos ⟨h.1, by omega⟩]; rfl
    · rw [if_neg h]
      by_cases h2 : fN set n < 258 ∧ fN set n < k + 1
      · have e : k = fN set n := by omega
        rw [if_pos h2, e, fk_of_fN hp h2.1]; rfl
      · rw [if_neg h2]
        cases hk : fk set 0 k n with
        | none => rfl
        | some s => exact absurd ⟨by have := fN_le hp hk; have := fk_len hk; omega, by have := fN_le hp hk; omega⟩ h2
/-- The first of all stacks with a length is the one of the walk. -/
theorem find_fewest (set : List Int) (hp : Pos set) (hn : set.length ≤ 257) (n : Int) : (stacks set (set.length + 1)).find? (fun s => tot set s == n) = fewest set n := by
  rw [find_stacks set hp hn n, fewest]
  by_cases h : fN set n < 258
  · have := fk_len (fk_of_fN (off := 0) hp h)
    rw [if_pos h, if_pos ⟨h, by omega⟩]
  · rw [if_neg h, if_neg (fun hh => h hh.1)]
/-! ### The reference's way: each stack is made longer by a greater place -/
def ext (len from_ : Nat) (s : List Nat) : List (List Nat) := (List.range' (match s.getLast? with | some l => l + 1 | none => from_) (len - (match s.getLast? with | some l => l + 1 | none => from_))).map fun b => s ++ [b]
theorem ext_cons {len a f : Nat} {s : List Nat} : ext len f (a :: s) = (ext len (a + 1) s).map (a :: ·) := by
  unfold ext
  rw [List.map_map]
  cases s with
  | nil => rfl
  | cons b s =>
    rw [List.getLast?_cons_cons]
    cases h : (b :: s).getLast? with
    | none => simp at h
    | some l => rfl
theorem flatMap_congr' {α β : Type} {l : List α} {f g : α → List β} (h : ∀ s ∈ l, f s = g s) : l.flatMap f = l.flatMap g := by
  induction l with
  | nil => rfl
  | cons a l ih => rw [List.flatMap_cons, List.flatMap_cons, h a (by simp), ih fun s hs => h s (by simp [hs])]
theorem lev_ne {a : List Int} : ∀ {off k : Nat} {s}, s ∈ lev a off (k + 1) → s ≠ [] := by
  induction a with
  | nil => intro off k s h; simp [lev] at h
  | cons x a ih =>
    intro off k s h
    rw [lev, List.mem_append, List.mem_map] at h
    rcases h with ⟨s', _, rfl⟩ | h
    · simp
    · exact ih h
theorem lev_ext : ∀ (a : List Int) (off k : Nat), lev a off (k + 1) = (lev a off k).flatMap (ext (off + a.length) off)
  | [], off, 0 => by simp [lev, ext]
  | [], off, k + 1 => by simp [lev]
  | x :: a, off, 0 => by
    have ih := lev_ext a (off + 1) 0
    have h0 : lev a (off + 1) 0 = [[]] := by cases a <;> rfl
    have h1 : lev (x :: a) off 0 = [[]] := rfl
    rw [show lev (x :: a) off (0 + 1) = (lev a (off + 1) 0).map (off :: ·) ++ lev a (off + 1) (0 + 1) from rfl, ih, h0, h1]
    simp only [List.map_cons, List.map_nil, List.flatMap_cons, List.flatMap_nil, List.append_nil, ext, List.getLast?_nil, List.length_cons, List.nil_append]
    rw [show off + (a.length + 1) - off = a.length + 1 by omega, show off + 1 + a.length - (off + 1) = a.length by omega, List.range'_succ]
    rfl
  | x :: a, off, k + 1 => by
    have ih1 := lev_ext a (off + 1) k
    have ih2 := lev_ext a (off + 1) (k + 1)
    rw [lev, ih2]
    conv => rhs; rw [lev, List.flatMap_append]
    have e : off + 1 + a.length = off + (x :: a).length := by simp; omega
    rw [e] at ih1 ⊢
    congr 1
    · rw [ih1, List.map_flatMap, List.flatMap_map]
      congr 1
      funext s
      rw [ext_cons]
    · refine flatMap_congr' fun s hs => ?_
      cases s with
      | nil => exact absurd rfl (lev_ne hs)
      | cons b s => rw [ext_cons, ext_cons]

/-- The sum as the program takes it, with its wraps. -/
def totW (set : List Int) (s : List Nat) : Int := s.foldl (fun a i => IntKind.i64.wrap (a + set.getD i 0)) 0
theorem totW_snoc (set : List Int) (s : List Nat) (n : Nat) : totW set (s ++ [n]) = IntKind.i64.wrap (totW set s + set.getD n 0) := by simp [totW, List.foldl_append]
/-- Numbers from 1 to 100000. -/
def Small (set : List Int) : Prop := ∀ x ∈ set, 1 ≤ x ∧ x ≤ 100000
theorem Small.getD {set : List Int} (h : Small set) (i : Nat) : 0 ≤ set.getD i 0 ∧ set.getD i 0 ≤ 100000 := by
  rw [List.getD_eq_getElem?_getD]
  cases hi : set[i]? with
  | none => simp
  | some x => have := h x (List.mem_of_getElem? hi); simp; omega
theorem totW_aux {set : List Int} (h : Small set) : ∀ (s : List Nat) (a : Int), 0 ≤ a → a + 100000 * s.length ≤ 9223372036854775807 →
    s.foldl (fun a i => IntKind.i64.wrap (a + set.getD i 0)) a = a + tot set s ∧ 0 ≤ tot set s ∧ tot set s ≤ 100000 * s.length
  | [], a, _, _ => by simp [tot]
  | i :: s, a, h0, h1 => by
    have hi := h.getD i
    simp only [List.length_cons] at h1
    have hw : IntKind.i64.wrap (a + set.getD i 0) = a + set.getD i 0 := wrap64 (by omega)
    rw [List.foldl_cons, hw]
    obtain ⟨e1, e2, e3⟩ := totW_aux h s (a + set.getD i 0) (by omega) (by omega)
    rw [e1]
    have ht : tot set (i :: s) = set.getD i 0 + tot set s := by simp [tot]
    rw [ht]
    simp only [List.length_cons]
    omega
theorem totW_eq {set : List Int} (h : Small set) {s : List Nat} (hs : s.length ≤ 1000) : totW set s = tot set s := by
  have := (totW_aux h s 0 (by omega) (by omega)).1
  unfold totW; rw [this]; omega
def I83 (set : List Int) (sv s1 : PV) (s : List Nat) (H : Heap) (i : Nat) (st : St) : Prop :=
  st = ⟨[sv, s1, gv st 2, gv st 3, .int .i64 0, .int .i64 (totW set (s.take i)), .int .i64 i, gv st 7, gv st 8, gv st 9, gv st 10, gv st 11, gv st 12, gv st 13, gv st 14, gv st 15, gv st 16, gv st 17, gv st 18, gv st 19, gv st 20, gv st 21, gv st 22], [] :: H, []⟩
set_option maxRecDepth 100000 in
theorem total83 {sv s1 set s} (hs : SV sv (ints set)) (h1 : SV s1 (nats s)) (hb : ∀ i ∈ s, i < set.length) (hn : s.length ≤ 1000) : Pure C 83 [sv, s1] (.int .i64 (totW set s)) := by
  intro H
  refine WC_own (fn := Tryd.f83) Tryd.func83 rfl rfl rfl (Or.inl rfl) ?_; simp only [Tryd.f83, List.replicate, List.length_cons, List.length_nil, Nat.reduceSub, Nat.reduceAdd, List.cons_append, List.nil_append]
  simp -dsimp -implicitDefEqProofs only [go_sem, C_P, C_deep, reduceCtorEq, Nat.reduceAdd, Nat.reduceLeDiff, Nat.reduceLT, Nat.reduceEqDiff, Nat.reduceMul, Nat.reduceSub, Nat.reducePow, Int.reduceToNat, Int.reduceLE, Int.reduceLT, Int.reduceEq]
  have hln := len_SV sl_31 h1
  rw [nats_len] at hln
  refine WL_for s.length (I83 set sv s1 s H) rfl ?_ ?_
  · rintro i st hi hst
    rw [I83] at hst
    rw [hst]
    generalize gv st = x
    have hd : decide ((i : Int) < s.length) = true := by simp; omega
    obtain ⟨n, hni⟩ : ∃ n, s[i]? = some n := ⟨_, List.getElem?_eq_getElem hi⟩
    have hnl := hb n (List.mem_of_getElem? hni)
    have hsum : IntKind.i64.wrap (totW set (s.take i) + set.getD n 0) = totW set (s.take (i + 1)) := by rw [← take_snoc hni, totW_snoc]
    simp -dsimp -implicitDefEqProofs only [go_sem, C_P, C_deep, reduceCtorEq, Nat.reduceAdd, Nat.reduceLeDiff, Nat.reduceLT, Nat.reduceEqDiff, Nat.reduceMul, Nat.reduceSub, Nat.reducePow, Int.reduceToNat, Int.reduceLE, Int.reduceLT, Int.reduceEq, hln, hd, index_SV (k := .i64) sl_31 h1 (nats_get hni) rfl, index_SV (k := .i64) sl_31 hs (ints_get hnl) rfl, hsum, wrap_succ (show i < 9223372036854775807 by omega)]
    exact rfl
  · rintro st hst
    rw [I83] at hst
    rw [hst]
    generalize gv st = x
    simp -dsimp -implicitDefEqProofs only [go_sem, C_P, C_deep, reduceCtorEq, Nat.reduceAdd, Nat.reduceLeDiff, Nat.reduceLT, Nat.reduceEqDiff, Nat.reduceMul, Nat.reduceSub, Nat.reducePow, Int.reduceToNat, Int.reduceLE, Int.reduceLT, Int.reduceEq, hln, List.take_length]

theorem append_limg {P t sz by_ z} (h : slInfo P t = some (sz, by_, z)) {H x d i u n0} :
    appendP P H t t (.sl d i u 0 n0 sz true) x = (srcCells H sz x).bind fun (n, new) => if n = 0 then some (.sl d i u 0 n0 sz true, H, []) else
      (getO H d i).bind fun o => if o.lo ≤ u ∧ u ≤ o.ver ∧ n0 * sz ≤ o.cells.length ∧ roomOk (n0 + n) by_ = true then
        some (.sl (curD H) (curN H) 0 0 (n0 + n) sz false, newO H (o.cells.take (n0 * sz) ++ new), []) else none := by
  obtain ⟨elem, z0, h1, h2, h3, h4, rfl, h5, h6⟩ := slInfo_eq h
  unfold appendP
  rw [h1]
  simp only [h2, h3, h4, Option.bind_some]
  rw [if_neg (by simp [h5, h6])]
  simp
/-- A list of places in the frame. -/
def IL (D : Nat) (g : List AObj) (v : PV) (s : List Nat) : Prop := (v = .nils ∧ s = []) ∨ (s ≠ [] ∧ ∃ j u, v = .sl D j u 0 s.length 1 false ∧ g[j]? = some ⟨(nats s).flatten, u, 0⟩)
def ILs (D : Nat) (g : List AObj) : List PV → List (List Nat) → Prop
  | [], [] => True
  | v :: vs, s :: ss => IL D g v s ∧ ILs D g vs ss
  | _, _ => False
theorem ILs.len {D g} : ∀ {vs ss}, ILs D g vs ss → vs.length = ss.length
  | [], [], _ => rfl
  | v :: vs, s :: ss, h => by simp [ILs.len h.2]
theorem ILs.get {D g} : ∀ {vs ss} {i : Nat} {s}, ILs D g vs ss → ss[i]? = some s → ∃ v, vs[i]? = some v ∧ IL D g v s
  | [], [], i, s, _, h => by simp at h
  | v :: vs, s :: ss, 0, s', h, hs => by simp at hs; subst hs; exact ⟨v, rfl, h.1⟩
  | v :: vs, s :: ss, i + 1, s', h, hs => by
    obtain ⟨w, h1, h2⟩ := ILs.get h.2 (by simpa using hs)
    exact ⟨w, by simpa using h1, h2⟩
theorem ILs.append {D g} : ∀ {vs ss vs' ss'}, ILs D g vs ss → ILs D g vs' ss' → ILs D g (vs ++ vs') (ss ++ ss')
  | [], [], _, _, _, h' => h'
  | v :: vs, s :: ss, _, _, h, h' => ⟨h.1, ILs.append h.2 h'⟩
/-- A list of such lists in the frame: in the object J. -/
def OL (D : Nat) (g : List AObj) (v : PV) (ss : List (List Nat)) (J : Option Nat) : Prop := (v = .nils ∧ ss = [] ∧ J = none) ∨
  (ss ≠ [] ∧ ∃ j u lim vs, v = .sl D j u 0 ss.length 1 lim ∧ J = some j ∧ g[j]? = some ⟨vs, u, 0⟩ ∧ ILs D g vs ss)
def Pr (G G' : List AObj) (J : Option Nat) : Prop := G.length ≤ G'.length ∧ ∀ i o, G[i]? = some o → J ≠ some i → G'[i]? = some o
theorem Pr.app (G l : List AObj) : Pr G (G ++ l) none := ⟨by simp, fun i o h _ => by rw [List.getElem?_append_left (List.getElem?_eq_some_iff.1 h).1]; exact h⟩
def NotIn (D : Nat) (G : List AObj) (J : Option Nat) : Prop := ∀ j s u, J = some j → s ≠ [] → G[j]? ≠ some ⟨(nats s).flatten, u, 0⟩
theorem NotIn.none {D G} : NotIn D G none := fun _ _ _ h => by cases h
theorem OL.notIn {D G v ss J} (h : OL D G v ss J) : NotIn D G J := by
  intro j s u hJ hs hg
  rcases h with ⟨_, _, rfl⟩ | ⟨hne, j', u', lim, vs, rfl, hj, ho, hil⟩
  · cases hJ
  · rw [hJ] at hj; cases hj
    rw [hg] at ho; cases ho
    cases ss with
    | nil => exact hne rfl
    | cons s' ss =>
      cases s with
      | nil => exact hs rfl
      | cons n s =>
        have : (nats (n :: s)).flatten = .int .i64 (n : Int) :: (nats s).flatten := rfl
        rw [this] at hil
        rcases hil.1 with ⟨h, _⟩ | ⟨_, _, _, h, _⟩ <;> cases h
theorem IL.pr {D G G' J v s} (h : IL D G v s) (hp : Pr G G' J) (hn : NotIn D G J) : IL D G' v s :=
  h.imp id fun ⟨hne, j, u, h1, h2⟩ => ⟨hne, j, u, h1, hp.2 j _ h2 fun e => hn j s u e hne h2⟩
theorem ILs.pr {D G G' J} (hp : Pr G G' J) (hn : NotIn D G J) : ∀ {vs ss}, ILs D G vs ss → ILs D G' vs ss
  | [], [], _ => trivial
  | v :: vs, s :: ss, h => ⟨h.1.pr hp hn, ILs.pr hp hn h.2⟩
theorem OL.pr {D G G' J v ss J'} (h : OL D G v ss J') (hp : Pr G G' J) (hn : NotIn D G J) (hd : ∀ j, J = some j → J' ≠ some j) : OL D G' v ss J' :=
  h.imp id fun ⟨hne, j, u, lim, vs, h1, h2, h3, h4⟩ => ⟨hne, j, u, lim, vs, h1, h2, hp.2 j _ h3 fun e => hd j e h2, h4.pr hp hn⟩
theorem OL.lt {D G v ss j} (h : OL D G v ss (some j)) : j < G.length := by
  rcases h with ⟨_, _, h⟩ | ⟨_, j', u, lim, vs, _, hj, ho, _⟩
  · cases h
  · cases hj; exact (List.getElem?_eq_some_iff.1 ho).1
theorem OL.cells {D G v ss J} (h : OL D G v ss J) : cellsOf v = [v] := by
  rcases h with ⟨rfl, _⟩ | ⟨_, j', u, lim, vs, rfl, hj, ho, _⟩ <;> rfl
theorem IL.cells {D G v s} (h : IL D G v s) : cellsOf v = [v] := by
  rcases h with ⟨rfl, _⟩ | ⟨_, j', u, rfl, ho⟩ <;> rfl
theorem IL.tup {D G v s} (h : IL D G v s) : isTup v = false := by
  rcases h with ⟨rfl, _⟩ | ⟨_, j', u, rfl, ho⟩ <;> rfl
theorem OL.len130 {D G v ss J} (h : OL D G v ss J) : lenP PP 130 v = some (.int .i64 ss.length) := by
  rcases h with ⟨rfl, rfl, _⟩ | ⟨_, j', u, lim, vs, rfl, hj, ho, _⟩
  · exact ln_130
  · exact ls_130
theorem take_all {α : Type} {l : List α} {n : Nat} (h : l.length = n) : l.take (n * 1) = l := by rw [Nat.mul_one, ← h, List.take_length]
/-- What a list of lists grows by. -/
theorem ol_append {G : List AObj} {fs : Heap} {v ss J src vs2 ss2} (h : OL fs.length G v ss J) (hsrc : srcCells (G :: fs) 1 src = some (vs2.length, vs2)) (hne : ss2 ≠ []) (hil : ILs fs.length G vs2 ss2)
    (hroom : (ss.length + ss2.length) * 24 ≤ 140737488355328) :
    ∃ v' G' J' wr, appendP PP (G :: fs) 130 130 v src = some (v', G' :: fs, wr) ∧ OL fs.length G' v' (ss ++ ss2) J' ∧ Pr G G' J ∧ (J' = J ∨ ∃ j, G.length ≤ j ∧ J' = some j) ∧ (wr = [] ∨ ∃ j, wr = [(fs.length, 0 + j)]) := by
  have hl2 := hil.len
  have hne2 : vs2.length ≠ 0 := by rw [hl2]; simpa using hne
  have hr2 : roomOk (ss.length + vs2.length) 24 = true := room_ok (by decide) (Nat.le_refl _) (by rw [hl2]; exact hroom)
  rcases h with ⟨rfl, rfl, rfl⟩ | ⟨hnz, j, u, lim, vs, rfl, rfl, ho, hvs⟩
  · refine ⟨.sl fs.length G.length 0 0 vs2.length 1 false, G ++ [⟨vs2, 0, 0⟩], some G.length, [], ?_, ?_, Pr.app _ _, .inr ⟨_, Nat.le_refl _, rfl⟩, .inl rfl⟩
    · rw [an_130, hsrc]
      simp only [Option.bind_some]
      rw [if_neg hne2, if_pos (by simpa using hr2), newO_cons, curD_cons, curN_cons]
    · exact .inr ⟨by simpa using hne, G.length, 0, false, vs2, by rw [hl2]; rfl, rfl, by rw [getElem?_app]; rfl, by simpa using hil.pr (Pr.app _ _) NotIn.none⟩
  · have hlv := hvs.len
    cases lim with
    | true =>
      refine ⟨.sl fs.length G.length 0 0 (ss.length + vs2.length) 1 false, G ++ [⟨vs ++ vs2, 0, 0⟩], some G.length, [], ?_, ?_, ⟨by simp, fun i o hi _ => (Pr.app G _).2 i o hi (by simp)⟩, .inr ⟨_, Nat.le_refl _, rfl⟩, .inl rfl⟩
      · rw [append_limg sl_130, hsrc]
        simp only [Option.bind_some]
        rw [if_neg hne2, getO_cons_self, ho]
        simp only [Option.bind_some]
        rw [if_pos ⟨Nat.zero_le _, Nat.le_refl _, by omega, hr2⟩, take_all hlv, newO_cons, curD_cons, curN_cons]
      · refine .inr ⟨by simp [hnz], G.length, 0, false, vs ++ vs2, by rw [List.length_append, hl2], rfl, by rw [getElem?_app]; rfl, ?_⟩
        exact (hvs.pr (Pr.app _ _) NotIn.none).append (hil.pr (Pr.app _ _) NotIn.none)
    | false =>
      have hni : NotIn fs.length G (some j) := OL.notIn (v := .sl fs.length j u 0 ss.length 1 false) (.inr ⟨hnz, j, u, false, vs, rfl, rfl, ho, hvs⟩)
      have hjl := (List.getElem?_eq_some_iff.1 ho).1
      have hpr : Pr G (G.set j ⟨vs ++ vs2, u + 1, 0⟩) (some j) := ⟨by simp, fun i o hi hne => by
        rw [List.getElem?_set_ne (fun e => hne (by rw [e]))]; exact hi⟩
      refine ⟨.sl fs.length j (u + 1) 0 (ss.length + vs2.length) 1 false, G.set j ⟨vs ++ vs2, u + 1, 0⟩, some j, [(fs.length, 0 + j)], ?_, ?_, hpr, .inl rfl, .inr ⟨j, rfl⟩⟩
      · rw [as_130, appSl, hsrc]
        simp only [Option.bind_some]
        rw [if_neg hne2, getO_cons_self, ho]
        simp only [Option.bind_some]
        rw [if_pos ⟨trivial, by rw [Nat.mul_one]; exact hlv.symm⟩, if_pos ⟨hr2, .inl rfl⟩, setO_cons_self, Nat.zero_add]
      · refine .inr ⟨by simp [hnz], j, u + 1, false, vs ++ vs2, by rw [List.length_append, hl2], rfl, by rw [List.getElem?_set_self hjl], ?_⟩
        exact (hvs.pr hpr hni).append (hil.pr hpr hni)
theorem WXh_ol {G : List AObj} {fs : Heap} {v ss J src vs2 ss2} (h : OL fs.length G v ss J) (hsrc : srcCells (G :: fs) 1 src = some (vs2.length, vs2)) (hne : ss2 ≠ []) (hil : ILs fs.length G vs2 ss2)
    (hroom : (ss.length + ss2.length) * 24 ≤ 140737488355328) {K tt}
    (hK : ∀ v' G' J' wr, OL fs.length G' v' (ss ++ ss2) J' → Pr G G' J → (J' = J ∨ ∃ j, G.length ≤ j ∧ J' = some j) → (wr = [] ∨ ∃ j, wr = [(fs.length, 0 + j)]) → K v' (G' :: fs) wr) :
    WXh (appendP PP (G :: fs) 130 130 v src) K tt := by
  obtain ⟨v', G', J', wr, h1, h2, h3, h4, h5⟩ := ol_append h hsrc hne hil hroom
  exact ⟨v', _, wr, h1, hK v' G' J' wr h2 h3 h4 h5⟩
/-- What such a list is to who comes behind. -/
def stkV (ss : List (List Nat)) : List (List PV) := ss.map fun s => [mkS (nats s)]
theorem reify_IL {D G v s} {fs : Heap} {k : Nat} (h : IL D G v s) (hD : D = fs.length) : reify (G :: fs) D (k + 2) v = some (mkS (nats s)) := by
  rcases h with ⟨rfl, rfl⟩ | ⟨hne, j, u, rfl, ho⟩
  · exact reify_nils
  · rw [mkS_ne (by simpa [nats] using hne)]
    exact reify_sl (o := ⟨(nats s).flatten, u, 0⟩) (rest := []) (by omega) (by rw [hD, getO_cons_self]; exact ho) ⟨Nat.zero_le _, Nat.le_refl _⟩ (by decide) (nats_len s) (by rw [nats_ints]; exact ints_one _) (by simp) (Nat.zero_le _) (nats_scal s)
theorem mapO_ILs {D G} {fs : Heap} {k : Nat} (hD : D = fs.length) : ∀ {vs ss}, ILs D G vs ss → mapO (mapO (reify (G :: fs) D (k + 2))) (chunks 1 ss.length vs) = some (stkV ss)
  | [], [], _ => rfl
  | v :: vs, s :: ss, h => by
    have ih := mapO_ILs (k := k) hD h.2
    simp only [List.length_cons, chunks, List.take_succ_cons, List.take_zero, List.drop_succ_cons, List.drop_zero, mapO, reify_IL (k := k) h.1 hD, Option.bind_some, Option.map_some, ih]
    rfl
theorem reify_OL {G v ss J} {fs : Heap} {k : Nat} (h : OL fs.length G v ss J) : ∃ sv, reify (G :: fs) fs.length (k + 3) v = some sv ∧ SV sv (stkV ss) := by
  rcases h with ⟨rfl, rfl, _⟩ | ⟨hne, j, u, lim, vs, rfl, _, ho, hvs⟩
  · exact ⟨.nils, reify_nils, .inl ⟨rfl, rfl⟩⟩
  · refine ⟨.tree (stkV ss) lim, ?_, .inr ⟨lim, rfl⟩⟩
    have hlv := hvs.len
    rw [reify, if_neg (by omega), getO_cons_self, ho]
    simp only [Option.bind_some]
    rw [if_pos ⟨Nat.zero_le _, Nat.le_refl _, by decide, by omega⟩, List.drop_zero, mapO_ILs rfl hvs]; rfl

/- All stacks, the reference's. -/
theorem lev_mem {a : List Int} : ∀ {off k : Nat} {s}, s ∈ lev a off k → s.length = k ∧ ∀ i ∈ s, i < off + a.length := by
  induction a with
  | nil =>
    intro off k s h
    cases k with
    | zero => rw [show lev [] off 0 = [[]] from rfl] at h; simp at h; subst h; simp
    | succ k => simp [lev] at h
  | cons x a ih =>
    intro off k s h
    cases k with
    | zero => rw [show lev (x :: a) off 0 = [[]] from rfl] at h; simp at h; subst h; simp
    | succ k =>
      rw [lev, List.mem_append, List.mem_map] at h
      rcases h with ⟨s', hs, rfl⟩ | h
      · obtain ⟨h1, h2⟩ := ih hs
        refine ⟨by simp [h1], fun i hi => ?_⟩
        rcases List.mem_cons.1 hi with rfl | hi
        · simp
        · have := h2 i hi; simp; omega
      · obtain ⟨h1, h2⟩ := ih h
        exact ⟨h1, fun i hi => by have := h2 i hi; simp; omega⟩
theorem lev_len {a : List Int} : ∀ {off k : Nat}, (lev a off k).length ≤ 2 ^ a.length := by
  induction a with
  | nil => intro off k; cases k <;> simp [lev]
  | cons x a ih =>
    intro off k
    cases k with
    | zero => rw [show lev (x :: a) off 0 = [[]] from rfl]; exact Nat.one_le_two_pow
    | succ k =>
      have h1 := ih (off := off + 1) (k := k)
      have h2 := ih (off := off + 1) (k := k + 1)
      rw [lev, List.length_append, List.length_map, List.length_cons, Nat.pow_succ]
      omega
theorem stacks_len (a : List Int) : ∀ k, (stacks a k).length ≤ k * 2 ^ a.length
  | 0 => by simp [stacks]
  | k + 1 => by
    have hs : stacks a (k + 1) = stacks a k ++ lev a 0 k := by unfold stacks; rw [List.range_succ, List.flatMap_append]; simp
    have := stacks_len a k
    have h2 := lev_len (a := a) (off := 0) (k := k)
    rw [hs, List.length_append, Nat.add_mul, Nat.one_mul]
    omega
theorem stacks_succ (a : List Int) (k : Nat) : stacks a (k + 1) = stacks a k ++ lev a 0 k := by unfold stacks; rw [List.range_succ, List.flatMap_append]; simp
/-- From which place on a stack is made longer. -/
def frm (s : List Nat) : Nat := match s.getLast? with
  | some l => l + 1
  | none => 0
theorem ext_eq (n : Nat) (s : List Nat) : ext n 0 s = (List.range' (frm s) (n - frm s)).map fun b => s ++ [b] := rfl
def extT (s : List Nat) (j : Nat) : List (List Nat) := (List.range' (frm s) j).map fun b => s ++ [b]
theorem extT_succ (s : List Nat) (j : Nat) : extT s (j + 1) = extT s j ++ [s ++ [frm s + j]] := by
  unfold extT; rw [List.range'_1_concat, List.map_append]; rfl
theorem nats_flat (s : List Nat) : (nats s).flatten = s.map fun (n : Nat) => PV.int .i64 (n : Int) := by
  induction s with
  | nil => rfl
  | cons a s ih => simp [nats] at ih ⊢; exact ih
def Ik (a : List Int) (H : Heap) (k : Nat) (st : St) : Prop :=
  ∃ (g : List AObj) (vo vl : PV) (Jo Jl : Option Nat), OL H.length g vo (stacks a (k + 1)) Jo ∧ OL H.length g vl (lev a 0 k) Jl ∧ (∀ j, Jo = some j → Jl ≠ some j) ∧
    st = ⟨[.int .i64 a.length, gv st 1, .nils, vo, vl, .int .i64 k, gv st 6, gv st 7, gv st 8, gv st 9, gv st 10, gv st 11, gv st 12, gv st 13, gv st 14, gv st 15, gv st 16, gv st 17, gv st 18, gv st 19, gv st 20, gv st 21, gv st 22, gv st 23, gv st 24, gv st 25, gv st 26, gv st 27, gv st 28, gv st 29, gv st 30, gv st 31, gv st 32, gv st 33, gv st 34, gv st 35, gv st 36, gv st 37, gv st 38, gv st 39, gv st 40, gv st 41, gv st 42, gv st 43, gv st 44, gv st 45, gv st 46, gv st 47, gv st 48, gv st 49, gv st 50, gv st 51, gv st 52, gv st 53, gv st 54, gv st 55, gv st 56], g :: H, []⟩
def Ii (a : List Int) (H : Heap) (k : Nat) (vo vl : PV) (i : Nat) (st : St) : Prop :=
  ∃ (g : List AObj) (vx : PV) (Jo Jl Jx : Option Nat), OL H.length g vo (stacks a (k + 1)) Jo ∧ OL H.length g vl (lev a 0 k) Jl ∧ OL H.length g vx (((lev a 0 k).take i).flatMap (ext a.length 0)) Jx ∧
    (∀ j, Jo = some j → Jl ≠ some j) ∧ (∀ j, Jx = some j → Jo ≠ some j ∧ Jl ≠ some j) ∧
    st = ⟨[.int .i64 a.length, gv st 1, .nils, vo, vl, .int .i64 k, vx, .int .i64 i, gv st 8, gv st 9, gv st 10, gv st 11, gv st 12, gv st 13, gv st 14, gv st 15, gv st 16, gv st 17, gv st 18, gv st 19, gv st 20, gv st 21, gv st 22, gv st 23, gv st 24, gv st 25, gv st 26, gv st 27, gv st 28, gv st 29, gv st 30, gv st 31, gv st 32, gv st 33, gv st 34, gv st 35, gv st 36, gv st 37, gv st 38, gv st 39, gv st 40, gv st 41, gv st 42, gv st 43, gv st 44, gv st 45, gv st 46, gv st 47, gv st 48, gv st 49, gv st 50, gv st 51, gv st 52, gv st 53, gv st 54, gv st 55, gv st 56], g :: H, []⟩
def Ib (a : List Int) (H : Heap) (k i : Nat) (s : List Nat) (vo vl : PV) (j : Nat) (st : St) : Prop :=
  ∃ (g : List AObj) (vx : PV) (Jo Jl Jx : Option Nat), OL H.length g vo (stacks a (k + 1)) Jo ∧ OL H.length g vl (lev a 0 k) Jl ∧ OL H.length g vx (((lev a 0 k).take i).flatMap (ext a.length 0) ++ extT s j) Jx ∧
    (∀ j, Jo = some j → Jl ≠ some j) ∧ (∀ j, Jx = some j → Jo ≠ some j ∧ Jl ≠ some j) ∧
    st = ⟨[.int .i64 a.length, gv st 1, .nils, vo, vl, .int .i64 k, vx, .int .i64 i, gv st 8, .int .i64 ((frm s + j : Nat) : Int), gv st 10, gv st 11, gv st 12, gv st 13, gv st 14, gv st 15, gv st 16, gv st 17, gv st 18, gv st 19, gv st 20, gv st 21, gv st 22, gv st 23, gv st 24, gv st 25, gv st 26, gv st 27, gv st 28, gv st 29, gv st 30, gv st 31, gv st 32, gv st 33, gv st 34, gv st 35, gv st 36, gv st 37, gv st 38, gv st 39, gv st 40, gv st 41, gv st 42, gv st 43, gv st 44, gv st 45, gv st 46, gv st 47, gv st 48, gv st 49, gv st 50, gv st 51, gv st 52, gv st 53, gv st 54, gv st 55, gv st 56], g :: H, []⟩
theorem flatMap_len {α β : Type} {l : List α} {f : α → List β} {m : Nat} (h : ∀ x, (f x).length ≤ m) : (l.flatMap f).length ≤ l.length * m := by
  induction l with
  | nil => simp
  | cons a l ih => rw [List.flatMap_cons, List.length_append, List.length_cons, Nat.add_mul, Nat.one_mul]; have := h a; omega
theorem lev_zero (a : List Int) (off : Nat) : lev a off 0 = [[]] := by cases a <;> rfl
theorem stacks_one (a : List Int) : stacks a 1 = [[]] := by unfold stacks; rw [show List.range 1 = [0] from rfl, List.flatMap_cons, lev_zero]; rfl
theorem append_none {P t sz by_ z} (h : slInfo P t = some (sz, by_, z)) {H x d i u n0 lim} (hx : srcCells H sz x = some (0, [])) : appendP P H t t (.sl d i u 0 n0 sz lim) x = some (.sl d i u 0 n0 sz lim, H, []) := by
  cases lim with
  | true => rw [append_limg h, hx]; rfl
  | false => rw [append_sl h, appSl, hx]; rfl
theorem OL.app {D g v ss J} (h : OL D g v ss J) (l : List AObj) : OL D (g ++ l) v ss J := h.pr (Pr.app g l) NotIn.none (fun _ e => by cases e)
theorem IL.app {D g v s} (h : IL D g v s) (l : List AObj) : IL D (g ++ l) v s := h.pr (Pr.app g l) NotIn.none
theorem OL.src {D G v ss J} {fs : Heap} (hD : D = fs.length) (h : OL D G v ss J) : ∃ vs, srcCells (G :: fs) 1 v = some (vs.length, vs) ∧ ILs D G vs ss := by
  rcases h with ⟨rfl, rfl, _⟩ | ⟨hne, j, u, lim, vs, rfl, _, ho, hvs⟩
  · exact ⟨[], rfl, trivial⟩
  · refine ⟨vs, ?_, hvs⟩
    unfold srcCells
    simp only []
    rw [hD, getO_cons_self, ho]
    simp only [Option.bind_some]
    rw [if_pos ⟨Nat.zero_le _, Nat.le_refl _, trivial, by have := hvs.len; omega⟩, List.drop_zero, ← hvs.len, take_all rfl]
theorem OL.idx {D g v ss J} {i : Nat} {s} (h : OL D g v ss J) (hs : ss[i]? = some s) : ∃ jl ul vsl vi, (∀ kk, indexAddrP PP 130 v (.int kk (i : Int)) = some (.ref D jl ul i (i + 1))) ∧ g[jl]? = some ⟨vsl, ul, 0⟩ ∧ vsl[i]? = some vi ∧ IL D g vi s ∧ i + 1 ≤ vsl.length := by
  rcases h with ⟨_, rfl, _⟩ | ⟨hne, j, u, lim, vs, rfl, _, ho, hvs⟩
  · simp at hs
  · obtain ⟨vi, h1, h2⟩ := hvs.get hs
    have hi := (List.getElem?_eq_some_iff.1 hs).1
    refine ⟨j, u, vs, vi, fun kk => ?_, ho, h1, h2, by have := hvs.len; omega⟩
    rw [ia_130, if_pos ⟨by omega, by rw [Int.toNat_natCast]; exact hi, rfl⟩, Int.toNat_natCast, Nat.mul_one, Nat.zero_add]
theorem OL.append_zero {D g v ss J H src} (h : OL D g v ss J) (hx : srcCells H 1 src = some (0, [])) : appendP PP H 130 130 v src = some (v, H, []) := by
  rcases h with ⟨rfl, _⟩ | ⟨hne, j, u, lim, vs, rfl, _⟩
  · rw [an_130, hx]; rfl
  · exact append_none sl_130 hx
/-- One more stack. -/
theorem Ib_step {a : List Int} {H : Heap} {k i : Nat} {s : List Nat} {vo vl vx w : PV} {j : Nat} {g l : List AObj} {Jo Jl Jx : Option Nat} {n : Nat}
    (ho : OL H.length g vo (stacks a (k + 1)) Jo) (hl : OL H.length g vl (lev a 0 k) Jl) (hx : OL H.length g vx (((lev a 0 k).take i).flatMap (ext a.length 0) ++ extT s j) Jx)
    (hol : ∀ j, Jo = some j → Jl ≠ some j) (hxs : ∀ j, Jx = some j → Jo ≠ some j ∧ Jl ≠ some j)
    (hn : l[n]? = some ⟨[w], 0, 0⟩) (hw : IL H.length (g ++ l) w (s ++ [frm s + j])) (hroom : ((((lev a 0 k).take i).flatMap (ext a.length 0) ++ extT s j).length + 1) * 24 ≤ 140737488355328) {m : Nat} (hm : m = g.length + n) {K : PV → Heap → Wr → Prop} {tt}
    (hK : ∀ v' g' wr, (∃ Jx', OL H.length g' vo (stacks a (k + 1)) Jo ∧ OL H.length g' vl (lev a 0 k) Jl ∧ OL H.length g' v' (((lev a 0 k).take i).flatMap (ext a.length 0) ++ extT s (j + 1)) Jx' ∧
      (∀ j, Jo = some j → Jl ≠ some j) ∧ (∀ j, Jx' = some j → Jo ≠ some j ∧ Jl ≠ some j)) → cellsOf v' = [v'] → (wr = [] ∨ ∃ j, wr = [(H.length, 0 + j)]) → K v' (g' :: H) wr) :
    WXh (appendP PP ((g ++ l) :: H) 130 130 vx (.sl H.length m 0 0 1 1 true)) K tt := by
  have ho' := ho.app l
  have hl' := hl.app l
  have hx' := hx.app l
  have hsrc : srcCells ((g ++ l) :: H) 1 (.sl H.length m 0 0 1 1 true) = some ([w].length, [w]) := by
    unfold srcCells
    simp only []
    rw [getO_cons_self, hm, getElem?_appn, hn]; rfl
  refine WXh_ol (ss2 := [s ++ [frm s + j]]) hx' hsrc (by simp) ⟨hw, trivial⟩ hroom ?_
  intro v' g' Jx' wr h1 h2 h3 h4
  have hni := hx'.notIn
  refine hK v' g' wr ⟨Jx', ho'.pr h2 hni (fun q e e' => (hxs q e).1 e'), hl'.pr h2 hni (fun q e e' => (hxs q e).2 e'), ?_, hol, ?_⟩ h1.cells h4
  · rw [extT_succ, ← List.append_assoc]; exact h1
  · rintro q e
    rcases h3 with rfl | ⟨q', hq', e'⟩
    · exact hxs q e
    · rw [e'] at e; cases e
      exact ⟨fun e => by have := (e ▸ ho' : OL _ _ _ _ (some q)).lt; omega, fun e => by have := (e ▸ hl' : OL _ _ _ _ (some q)).lt; omega⟩
set_option maxHeartbeats 2000000 in
set_option maxRecDepth 100000 in
theorem stacks82 (a : List Int) (hn : a.length ≤ 8) (H : Heap) : WC C 82 [.int .i64 (a.length : Int)] H fun v H' d => SV v (stkV (stacks a (a.length + 1))) ∧ H' = H ∧ d = [] := by
  refine WC_own (fn := Tryd.f82) Tryd.func82 rfl rfl rfl (Or.inl rfl) ?_; simp only [Tryd.f82, List.replicate, List.length_cons, List.length_nil, Nat.reduceSub, Nat.reduceAdd, List.cons_append, List.nil_append]
  simp -dsimp -implicitDefEqProofs only [go_sem, C_P, C_deep, reduceCtorEq, Nat.reduceAdd, Nat.reduceLeDiff, Nat.reduceLT, Nat.reduceEqDiff, Nat.reduceMul, Nat.reduceSub, Nat.reducePow, Int.reduceToNat, Int.reduceLE, Int.reduceLT, Int.reduceEq]
  have hbig : ∀ k, k ≤ 9 → (stacks a k).length ≤ 9 * 256 := fun k hk => by
    have := stacks_len a k
    have h2 : 2 ^ a.length ≤ 2 ^ 8 := Nat.pow_le_pow_right (by decide) hn
    have h3 : k * 2 ^ a.length ≤ 9 * 256 := Nat.mul_le_mul hk h2
    omega
  refine WL_for a.length (Ik a H) ⟨_, _, _, some 0, some 1, .inr ⟨by rw [stacks_one]; simp, 0, 0, true, [.nils], by rw [stacks_one]; rfl, rfl, rfl, by rw [stacks_one]; exact ⟨.inl ⟨rfl, rfl⟩, trivial⟩⟩,
    .inr ⟨by rw [lev_zero]; simp, 1, 0, true, [.nils], by rw [lev_zero]; rfl, rfl, rfl, by rw [lev_zero]; exact ⟨.inl ⟨rfl, rfl⟩, trivial⟩⟩, by simp, rfl⟩ ?_ ?_
  · rintro k st hk ⟨g, vo, vl, Jo, Jl, ho, hl, hol, hst⟩
    rw [hst]
    generalize gv st = x
    have hd : decide ((k : Int) < a.length) = true := by simp; omega
    simp -dsimp -implicitDefEqProofs only [go_sem, C_P, C_deep, reduceCtorEq, Nat.reduceAdd, Nat.reduceLeDiff, Nat.reduceLT, Nat.reduceEqDiff, Nat.reduceMul, Nat.reduceSub, Nat.reducePow, Int.reduceToNat, Int.reduceLE, Int.reduceLT, Int.reduceEq, hd]
    refine WL_for (lev a 0 k).length (Ii a H k vo vl) ⟨g, .nils, Jo, Jl, none, ho, hl, .inl ⟨rfl, by simp, rfl⟩, hol, by simp, rfl⟩ ?_ ?_
    · clear ho hl hol hst x st
      rintro i st hi ⟨g, vx, Jo, Jl, Jx, ho, hl, hx, hol, hxs, hst⟩
      rw [hst]
      generalize gv st = x
      have hd2 : decide ((i : Int) < (lev a 0 k).length) = true := by simp; omega
      obtain ⟨s, hs⟩ : ∃ s, (lev a 0 k)[i]? = some s := ⟨_, List.getElem?_eq_getElem hi⟩
      obtain ⟨hsk, hsm⟩ := lev_mem (List.mem_of_getElem? hs)
      have hib : i < 256 := by
        have h3 := lev_len (a := a) (off := 0) (k := k)
        have h4 : 2 ^ a.length ≤ 2 ^ 8 := Nat.pow_le_pow_right (by decide) hn
        omega
      have hlv := hl.len130
      have hfn : frm s ≤ a.length := by
        unfold frm
        cases hg : s.getLast? with
        | none => simp
        | some q => have := hsm q (List.mem_of_getLast? hg); simp; omega
      simp -dsimp -implicitDefEqProofs only [go_sem, C_P, C_deep, reduceCtorEq, Nat.reduceAdd, Nat.reduceLeDiff, Nat.reduceLT, Nat.reduceEqDiff, Nat.reduceMul, Nat.reduceSub, Nat.reducePow, Int.reduceToNat, Int.reduceLE, Int.reduceLT, Int.reduceEq, hlv, hd2]
      refine Br_intro (fun h1 => ?_) (fun h1 => ?_)
      · have hk0 : 0 < k := by have := of_decide_eq_true h1; omega
        obtain ⟨jl, ul, vsl, vi, hia, hgl, hvi, hil, hle⟩ := hl.idx hs
        rcases hil with ⟨rfl, hse⟩ | ⟨hsne, js, us, rfl, hgs⟩
        · rw [hse] at hsk; simp at hsk; omega
        obtain ⟨q, hq⟩ : ∃ q, s[k - 1]? = some q := ⟨_, List.getElem?_eq_getElem (show k - 1 < s.length by omega)⟩
        have hgq : s.getLast? = some q := by rw [List.getLast?_eq_getElem?, hsk]; exact hq
        have hfq : frm s = q + 1 := by unfold frm; rw [hgq]
        have hqn : q < a.length := by have := hsm q (List.mem_of_getElem? hq); omega
        have hF1 : (nats s).flatten[k - 1]? = some (.int .i64 (q : Int)) := by rw [nats_flat, List.getElem?_map, hq]; rfl
        have hF2 : k - 1 + 1 ≤ (nats s).flatten.length := by rw [nats_flat, List.length_map]; omega
        have hsub : IntKind.i64.wrap ((k : Int) - 1) = ((k - 1 : Nat) : Int) := by rw [wrap64 (by omega)]; omega
        have hadd : IntKind.i64.wrap ((q : Int) + 1) = ((frm s : Nat) : Int) := by rw [hfq]; exact wrap_succ (by omega)
        generalize (nats s).flatten = F0 at hgs hF1 hF2
        simp -dsimp -implicitDefEqProofs only [go_sem, C_P, C_deep, reduceCtorEq, Nat.reduceAdd, Nat.reduceLeDiff, Nat.reduceLT, Nat.reduceEqDiff, Nat.reduceMul, Nat.reduceSub, Nat.reducePow, Int.reduceToNat, Int.reduceLE, Int.reduceLT, Int.reduceEq, hgl, hvi, hia, hle, hsub, hgs, Nat.mul_one, hF1, hF2, show k - 1 < s.length by omega, show (0 : Int) ≤ ((k - 1 : Nat) : Int) from by omega, hadd]
        refine WL_for (a.length - frm s) (Ib a H k i s vo vl) ⟨g, vx, Jo, Jl, Jx, ho, hl, by rw [show extT s 0 = [] from rfl, List.append_nil]; exact hx, hol, hxs, by first | exact rfl | (simp only [show frm s = 0 by first | exact hf0 | omega]; exact rfl)⟩ ?_ ?_
        · clear ho hl hx hol hxs hst x st
          rintro j st hj ⟨g, vx, Jo, Jl, Jx, ho, hl, hx, hol, hxs, hst⟩
          rw [hst]
          generalize gv st = x
          have hd3 : decide (((frm s + j : Nat) : Int) < a.length) = true := by simp; omega
          have hinc : IntKind.i64.wrap (((frm s + j : Nat) : Int) + 1) = ((frm s + (j + 1) : Nat) : Int) := wrap_succ (show frm s + j < 9223372036854775807 by omega)
          have hroom : ((((lev a 0 k).take i).flatMap (ext a.length 0) ++ extT s j).length + 1) * 24 ≤ 140737488355328 := by
            have h1 := flatMap_len (l := (lev a 0 k).take i) (f := ext a.length 0) (m := 8) (fun s => by rw [ext_eq, List.length_map, List.length_range']; omega)
            have h2 : ((lev a 0 k).take i).length ≤ 256 := by
              rw [List.length_take]
              have h3 := lev_len (a := a) (off := 0) (k := k)
              have h4 : 2 ^ a.length ≤ 2 ^ 8 := Nat.pow_le_pow_right (by decide) hn
              omega
            have h5 : (extT s j).length = j := by unfold extT; rw [List.length_map, List.length_range']
            rw [List.length_append, h5]
            have : ((lev a 0 k).take i).length * 8 ≤ 256 * 8 := Nat.mul_le_mul_right 8 h2
            omega
          obtain ⟨jl, ul, vsl, vi, hia, hgl, hvi, hil, hle⟩ := hl.idx hs
          have hglu : ∀ y : List AObj, (g ++ y)[jl]? = some ⟨vsl, ul, 0⟩ := fun y => by rw [List.getElem?_append_left (List.getElem?_eq_some_iff.1 hgl).1]; exact hgl
          rcases id hil with ⟨rfl, hse⟩ | ⟨hsne, js, us, rfl, hgs⟩
          · have hapA : appendP PP ((g ++ [⟨[], 0, 0⟩]) :: H) 31 31 (.sl H.length g.length 0 0 0 1 true) .nils = some (.sl H.length g.length 0 0 0 1 true, (g ++ [⟨[], 0, 0⟩]) :: H, []) := append_none sl_31 rfl
            have hapB : appendP PP ((g ++ [⟨[], 0, 0⟩, ⟨[.int .i64 ((frm s + j : Nat) : Int)], 0, 0⟩]) :: H) 31 31 (.sl H.length g.length 0 0 0 1 true) (.sl H.length (g.length + 1) 0 0 1 1 true) =
                some (.sl H.length (g.length + 2) 0 0 1 1 false, (g ++ [⟨[], 0, 0⟩, ⟨[.int .i64 ((frm s + j : Nat) : Int)], 0, 0⟩, ⟨[.int .i64 ((frm s + j : Nat) : Int)], 0, 0⟩]) :: H, []) := by
              rw [append_lim sl_31 (n := 1) (new := [.int .i64 ((frm s + j : Nat) : Int)]) (by unfold srcCells; simp only []; rw [getO_cons_self, getElem?_appn]; rfl) (by rw [getO_cons_self, getElem?_app]; rfl) (by decide)]
              simp [newO_cons, curD_cons, curN_cons]
            simp -dsimp -implicitDefEqProofs only [go_sem, C_P, C_deep, reduceCtorEq, Nat.reduceAdd, Nat.reduceLeDiff, Nat.reduceLT, Nat.reduceEqDiff, Nat.reduceMul, Nat.reduceSub, Nat.reducePow, Int.reduceToNat, Int.reduceLE, Int.reduceLT, Int.reduceEq, hd3, hia, hglu, hvi, hle, hapA, hapB]
            refine Ib_step (l := [⟨[], 0, 0⟩, ⟨[.int .i64 ((frm s + j : Nat) : Int)], 0, 0⟩, ⟨[.int .i64 ((frm s + j : Nat) : Int)], 0, 0⟩, ⟨[.sl H.length (g.length + 2) 0 0 1 1 false], 0, 0⟩]) (n := 3) ho hl hx hol hxs rfl (.inr ⟨by simp, g.length + 2, 0, by rw [hse]; rfl, by rw [getElem?_appn, hse]; rfl⟩) hroom rfl ?_
            rintro v' g' wr ⟨Jx', h1, h2, h3, h4, h5⟩ hcv hwr
            simp -dsimp -implicitDefEqProofs only [go_sem, C_P, C_deep, reduceCtorEq, Nat.reduceAdd, Nat.reduceLeDiff, Nat.reduceLT, Nat.reduceEqDiff, Nat.reduceMul, Nat.reduceSub, Nat.reducePow, Int.reduceToNat, Int.reduceLE, Int.reduceLT, Int.reduceEq, addWs_own hwr, hinc]
            exact ⟨g', v', Jo, Jl, Jx', h1, h2, h3, h4, h5, rfl⟩
          · have hF : (nats s).flatten.length = s.length := by rw [nats_flat, List.length_map]
            have hFb : (nats s).flatten ++ [PV.int .i64 ((frm s + j : Nat) : Int)] = (nats (s ++ [frm s + j])).flatten := by rw [nats_flat, nats_flat, List.map_append]; rfl
            have hapA : appendP PP ((g ++ [⟨[], 0, 0⟩]) :: H) 31 31 (.sl H.length g.length 0 0 0 1 true) (.sl H.length js us 0 s.length 1 false) = some (.sl H.length (g.length + 1) 0 0 s.length 1 false, (g ++ [⟨[], 0, 0⟩, ⟨(nats s).flatten, 0, 0⟩]) :: H, []) := by
              rw [append_lim sl_31 (n := s.length) (new := (nats s).flatten) (by
                unfold srcCells; simp only []; rw [getO_cons_self, List.getElem?_append_left (List.getElem?_eq_some_iff.1 hgs).1, hgs]
                simp only [Option.bind_some]
                rw [if_pos ⟨Nat.zero_le _, Nat.le_refl _, trivial, by omega⟩, List.drop_zero, take_all hF]) (by rw [getO_cons_self, getElem?_app]; rfl) (room_ok (m := 1000) (by decide) (by omega) (by decide)), if_neg (by simpa using hsne)]
              simp [newO_cons, curD_cons, curN_cons]
            have hapB : appendP PP ((g ++ [⟨[], 0, 0⟩, ⟨(nats s).flatten, 0, 0⟩, ⟨[.int .i64 ((frm s + j : Nat) : Int)], 0, 0⟩]) :: H) 31 31 (.sl H.length (g.length + 1) 0 0 s.length 1 false) (.sl H.length (g.length + 2) 0 0 1 1 true) =
                some (.sl H.length (g.length + 1) 1 0 (s.length + 1) 1 false, (g ++ [⟨[], 0, 0⟩, ⟨(nats (s ++ [frm s + j])).flatten, 1, 0⟩, ⟨[.int .i64 ((frm s + j : Nat) : Int)], 0, 0⟩]) :: H, [(H.length, g.length + 1)]) := by
              have hsrc : srcCells ((g ++ [⟨[], 0, 0⟩, ⟨(nats s).flatten, 0, 0⟩, ⟨[.int .i64 ((frm s + j : Nat) : Int)], 0, 0⟩]) :: H) 1 (.sl H.length (g.length + 2) 0 0 1 1 true) = some (1, [.int .i64 ((frm s + j : Nat) : Int)]) := by
                unfold srcCells; simp only []; rw [getO_cons_self, getElem?_appn]; rfl
              rw [append_sl sl_31, appSl, hsrc]
              simp only [Option.bind_some]
              rw [if_neg (by decide), getO_cons_self, getElem?_appn]
              simp only [List.getElem?_cons_succ, List.getElem?_cons_zero, Option.bind_some]
              rw [if_pos ⟨trivial, by omega⟩, if_pos ⟨room_ok (m := 1000) (by decide) (by omega) (by decide), .inl rfl⟩, setO_cons_self, set_appn, hFb]
              rfl
            simp -dsimp -implicitDefEqProofs only [go_sem, C_P, C_deep, reduceCtorEq, Nat.reduceAdd, Nat.reduceLeDiff, Nat.reduceLT, Nat.reduceEqDiff, Nat.reduceMul, Nat.reduceSub, Nat.reducePow, Int.reduceToNat, Int.reduceLE, Int.reduceLT, Int.reduceEq, hd3, hia, hglu, hvi, hle, hapA, hapB]
            refine Ib_step (l := [⟨[], 0, 0⟩, ⟨(nats (s ++ [frm s + j])).flatten, 1, 0⟩, ⟨[.int .i64 ((frm s + j : Nat) : Int)], 0, 0⟩, ⟨[.sl H.length (g.length + 1) 1 0 (s.length + 1) 1 false], 0, 0⟩]) (n := 3) ho hl hx hol hxs rfl (.inr ⟨by simp, g.length + 1, 1, by rw [List.length_append]; rfl, by rw [getElem?_appn]; rfl⟩) hroom rfl ?_
            rintro v' g' wr ⟨Jx', h1, h2, h3, h4, h5⟩ hcv hwr
            simp -dsimp -implicitDefEqProofs only [go_sem, C_P, C_deep, reduceCtorEq, Nat.reduceAdd, Nat.reduceLeDiff, Nat.reduceLT, Nat.reduceEqDiff, Nat.reduceMul, Nat.reduceSub, Nat.reducePow, Int.reduceToNat, Int.reduceLE, Int.reduceLT, Int.reduceEq, addWs_own hwr, hinc]
            exact ⟨g', v', Jo, Jl, Jx', h1, h2, h3, h4, h5, rfl⟩
        · clear ho hl hx hol hxs hst x st
          rintro st ⟨g, vx, Jo, Jl, Jx, ho, hl, hx, hol, hxs, hst⟩
          rw [hst]
          generalize gv st = x
          have hd3 : decide (((frm s + (a.length - frm s) : Nat) : Int) < a.length) = false := by simp; omega
          simp -dsimp -implicitDefEqProofs only [go_sem, C_P, C_deep, reduceCtorEq, Nat.reduceAdd, Nat.reduceLeDiff, Nat.reduceLT, Nat.reduceEqDiff, Nat.reduceMul, Nat.reduceSub, Nat.reducePow, Int.reduceToNat, Int.reduceLE, Int.reduceLT, Int.reduceEq, hd3, wrap_succ (show i < 9223372036854775807 by omega)]
          refine ⟨g, vx, Jo, Jl, Jx, ho, hl, ?_, hol, hxs, rfl⟩
          rw [← take_snoc hs, List.flatMap_append, List.flatMap_cons, List.flatMap_nil, List.append_nil, ext_eq]
          exact hx
      · have hk0 : k = 0 := by have := of_decide_eq_false h1; omega
        have hs0 : s = [] := by
          cases s with
          | nil => rfl
          | cons b s => simp at hsk; omega
        have hf0 : frm s = 0 := by rw [hs0]; rfl
        simp -dsimp -implicitDefEqProofs only [go_sem, C_P, C_deep, reduceCtorEq, Nat.reduceAdd, Nat.reduceLeDiff, Nat.reduceLT, Nat.reduceEqDiff, Nat.reduceMul, Nat.reduceSub, Nat.reducePow, Int.reduceToNat, Int.reduceLE, Int.reduceLT, Int.reduceEq]
        refine WL_for (a.length - frm s) (Ib a H k i s vo vl) ⟨g, vx, Jo, Jl, Jx, ho, hl, by rw [show extT s 0 = [] from rfl, List.append_nil]; exact hx, hol, hxs, by first | exact rfl | (simp only [show frm s = 0 by first | exact hf0 | omega]; exact rfl)⟩ ?_ ?_
        · clear ho hl hx hol hxs hst x st
          rintro j st hj ⟨g, vx, Jo, Jl, Jx, ho, hl, hx, hol, hxs, hst⟩
          rw [hst]
          generalize gv st = x
          have hd3 : decide (((frm s + j : Nat) : Int) < a.length) = true := by simp; omega
          have hinc : IntKind.i64.wrap (((frm s + j : Nat) : Int) + 1) = ((frm s + (j + 1) : Nat) : Int) := wrap_succ (show frm s + j < 9223372036854775807 by omega)
          have hroom : ((((lev a 0 k).take i).flatMap (ext a.length 0) ++ extT s j).length + 1) * 24 ≤ 140737488355328 := by
            have h1 := flatMap_len (l := (lev a 0 k).take i) (f := ext a.length 0) (m := 8) (fun s => by rw [ext_eq, List.length_map, List.length_range']; omega)
            have h2 : ((lev a 0 k).take i).length ≤ 256 := by
              rw [List.length_take]
              have h3 := lev_len (a := a) (off := 0) (k := k)
              have h4 : 2 ^ a.length ≤ 2 ^ 8 := Nat.pow_le_pow_right (by decide) hn
              omega
            have h5 : (extT s j).length = j := by unfold extT; rw [List.length_map, List.length_range']
            rw [List.length_append, h5]
            have : ((lev a 0 k).take i).length * 8 ≤ 256 * 8 := Nat.mul_le_mul_right 8 h2
            omega
          obtain ⟨jl, ul, vsl, vi, hia, hgl, hvi, hil, hle⟩ := hl.idx hs
          have hglu : ∀ y : List AObj, (g ++ y)[jl]? = some ⟨vsl, ul, 0⟩ := fun y => by rw [List.getElem?_append_left (List.getElem?_eq_some_iff.1 hgl).1]; exact hgl
          rcases id hil with ⟨rfl, hse⟩ | ⟨hsne, js, us, rfl, hgs⟩
          · have hapA : appendP PP ((g ++ [⟨[], 0, 0⟩]) :: H) 31 31 (.sl H.length g.length 0 0 0 1 true) .nils = some (.sl H.length g.length 0 0 0 1 true, (g ++ [⟨[], 0, 0⟩]) :: H, []) := append_none sl_31 rfl
            have hapB : appendP PP ((g ++ [⟨[], 0, 0⟩, ⟨[.int .i64 ((frm s + j : Nat) : Int)], 0, 0⟩]) :: H) 31 31 (.sl H.length g.length 0 0 0 1 true) (.sl H.length (g.length + 1) 0 0 1 1 true) =
                some (.sl H.length (g.length + 2) 0 0 1 1 false, (g ++ [⟨[], 0, 0⟩, ⟨[.int .i64 ((frm s + j : Nat) : Int)], 0, 0⟩, ⟨[.int .i64 ((frm s + j : Nat) : Int)], 0, 0⟩]) :: H, []) := by
              rw [append_lim sl_31 (n := 1) (new := [.int .i64 ((frm s + j : Nat) : Int)]) (by unfold srcCells; simp only []; rw [getO_cons_self, getElem?_appn]; rfl) (by rw [getO_cons_self, getElem?_app]; rfl) (by decide)]
              simp [newO_cons, curD_cons, curN_cons]
            simp -dsimp -implicitDefEqProofs only [go_sem, C_P, C_deep, reduceCtorEq, Nat.reduceAdd, Nat.reduceLeDiff, Nat.reduceLT, Nat.reduceEqDiff, Nat.reduceMul, Nat.reduceSub, Nat.reducePow, Int.reduceToNat, Int.reduceLE, Int.reduceLT, Int.reduceEq, hd3, hia, hglu, hvi, hle, hapA, hapB]
            refine Ib_step (l := [⟨[], 0, 0⟩, ⟨[.int .i64 ((frm s + j : Nat) : Int)], 0, 0⟩, ⟨[.int .i64 ((frm s + j : Nat) : Int)], 0, 0⟩, ⟨[.sl H.length (g.length + 2) 0 0 1 1 false], 0, 0⟩]) (n := 3) ho hl hx hol hxs rfl (.inr ⟨by simp, g.length + 2, 0, by rw [hse]; rfl, by rw [getElem?_appn, hse]; rfl⟩) hroom rfl ?_
            rintro v' g' wr ⟨Jx', h1, h2, h3, h4, h5⟩ hcv hwr
            simp -dsimp -implicitDefEqProofs only [go_sem, C_P, C_deep, reduceCtorEq, Nat.reduceAdd, Nat.reduceLeDiff, Nat.reduceLT, Nat.reduceEqDiff, Nat.reduceMul, Nat.reduceSub, Nat.reducePow, Int.reduceToNat, Int.reduceLE, Int.reduceLT, Int.reduceEq, addWs_own hwr, hinc]
            exact ⟨g', v', Jo, Jl, Jx', h1, h2, h3, h4, h5, rfl⟩
          · have hF : (nats s).flatten.length = s.length := by rw [nats_flat, List.length_map]
            have hFb : (nats s).flatten ++ [PV.int .i64 ((frm s + j : Nat) : Int)] = (nats (s ++ [frm s + j])).flatten := by rw [nats_flat, nats_flat, List.map_append]; rfl
            have hapA : appendP PP ((g ++ [⟨[], 0, 0⟩]) :: H) 31 31 (.sl H.length g.length 0 0 0 1 true) (.sl H.length js us 0 s.length 1 false) = some (.sl H.length (g.length + 1) 0 0 s.length 1 false, (g ++ [⟨[], 0, 0⟩, ⟨(nats s).flatten, 0, 0⟩]) :: H, []) := by
              rw [append_lim sl_31 (n := s.length) (new := (nats s).flatten) (by
                unfold srcCells; simp only []; rw [getO_cons_self, List.getElem?_append_left (List.getElem?_eq_some_iff.1 hgs).1, hgs]
                simp only [Option.bind_some]
                rw [if_pos ⟨Nat.zero_le _, Nat.le_refl _, trivial, by omega⟩, List.drop_zero, take_all hF]) (by rw [getO_cons_self, getElem?_app]; rfl) (room_ok (m := 1000) (by decide) (by omega) (by decide)), if_neg (by simpa using hsne)]
              simp [newO_cons, curD_cons, curN_cons]
            have hapB : appendP PP ((g ++ [⟨[], 0, 0⟩, ⟨(nats s).flatten, 0, 0⟩, ⟨[.int .i64 ((frm s + j : Nat) : Int)], 0, 0⟩]) :: H) 31 31 (.sl H.length (g.length + 1) 0 0 s.length 1 false) (.sl H.length (g.length + 2) 0 0 1 1 true) =
                some (.sl H.length (g.length + 1) 1 0 (s.length + 1) 1 false, (g ++ [⟨[], 0, 0⟩, ⟨(nats (s ++ [frm s + j])).flatten, 1, 0⟩, ⟨[.int .i64 ((frm s + j : Nat) : Int)], 0, 0⟩]) :: H, [(H.length, g.length + 1)]) := by
              have hsrc : srcCells ((g ++ [⟨[], 0, 0⟩, ⟨(nats s).flatten, 0, 0⟩, ⟨[.int .i64 ((frm s + j : Nat) : Int)], 0, 0⟩]) :: H) 1 (.sl H.length (g.length + 2) 0 0 1 1 true) = some (1, [.int .i64 ((frm s + j : Nat) : Int)]) := by
                unfold srcCells; simp only []; rw [getO_cons_self, getElem?_appn]; rfl
              rw [append_sl sl_31, appSl, hsrc]
              simp only [Option.bind_some]
              rw [if_neg (by decide), getO_cons_self, getElem?_appn]
              simp only [List.getElem?_cons_succ, List.getElem?_cons_zero, Option.bind_some]
              rw [if_pos ⟨trivial, by omega⟩, if_pos ⟨room_ok (m := 1000) (by decide) (by omega) (by decide), .inl rfl⟩, setO_cons_self, set_appn, hFb]
              rfl
            simp -dsimp -implicitDefEqProofs only [go_sem, C_P, C_deep, reduceCtorEq, Nat.reduceAdd, Nat.reduceLeDiff, Nat.reduceLT, Nat.reduceEqDiff, Nat.reduceMul, Nat.reduceSub, Nat.reducePow, Int.reduceToNat, Int.reduceLE, Int.reduceLT, Int.reduceEq, hd3, hia, hglu, hvi, hle, hapA, hapB]
            refine Ib_step (l := [⟨[], 0, 0⟩, ⟨(nats (s ++ [frm s + j])).flatten, 1, 0⟩, ⟨[.int .i64 ((frm s + j : Nat) : Int)], 0, 0⟩, ⟨[.sl H.length (g.length + 1) 1 0 (s.length + 1) 1 false], 0, 0⟩]) (n := 3) ho hl hx hol hxs rfl (.inr ⟨by simp, g.length + 1, 1, by rw [List.length_append]; rfl, by rw [getElem?_appn]; rfl⟩) hroom rfl ?_
            rintro v' g' wr ⟨Jx', h1, h2, h3, h4, h5⟩ hcv hwr
            simp -dsimp -implicitDefEqProofs only [go_sem, C_P, C_deep, reduceCtorEq, Nat.reduceAdd, Nat.reduceLeDiff, Nat.reduceLT, Nat.reduceEqDiff, Nat.reduceMul, Nat.reduceSub, Nat.reducePow, Int.reduceToNat, Int.reduceLE, Int.reduceLT, Int.reduceEq, addWs_own hwr, hinc]
            exact ⟨g', v', Jo, Jl, Jx', h1, h2, h3, h4, h5, rfl⟩
        · clear ho hl hx hol hxs hst x st
          rintro st ⟨g, vx, Jo, Jl, Jx, ho, hl, hx, hol, hxs, hst⟩
          rw [hst]
          generalize gv st = x
          have hd3 : decide (((frm s + (a.length - frm s) : Nat) : Int) < a.length) = false := by simp; omega
          simp -dsimp -implicitDefEqProofs only [go_sem, C_P, C_deep, reduceCtorEq, Nat.reduceAdd, Nat.reduceLeDiff, Nat.reduceLT, Nat.reduceEqDiff, Nat.reduceMul, Nat.reduceSub, Nat.reducePow, Int.reduceToNat, Int.reduceLE, Int.reduceLT, Int.reduceEq, hd3, wrap_succ (show i < 9223372036854775807 by omega)]
          refine ⟨g, vx, Jo, Jl, Jx, ho, hl, ?_, hol, hxs, rfl⟩
          rw [← take_snoc hs, List.flatMap_append, List.flatMap_cons, List.flatMap_nil, List.append_nil, ext_eq]
          exact hx
    · clear ho hl hol hst x st
      rintro st ⟨g, vx, Jo, Jl, Jx, ho, hl, hx, hol, hxs, hst⟩
      rw [hst]
      generalize gv st = x
      have hlx : (lev a 0 k).flatMap (ext a.length 0) = lev a 0 (k + 1) := by
        have := lev_ext a 0 k
        rw [Nat.zero_add] at this
        exact this.symm
      rw [List.take_length, hlx] at hx
      have hlv := hl.len130
      have hss := stacks_succ a (k + 1)
      obtain ⟨vsx, hsrc, hvx⟩ := hx.src rfl
      simp -dsimp -implicitDefEqProofs only [go_sem, C_P, C_deep, reduceCtorEq, Nat.reduceAdd, Nat.reduceLeDiff, Nat.reduceLT, Nat.reduceEqDiff, Nat.reduceMul, Nat.reduceSub, Nat.reducePow, Int.reduceToNat, Int.reduceLE, Int.reduceLT, Int.reduceEq, hlv]
      by_cases he : lev a 0 (k + 1) = []
      · rw [he] at hvx hss
        have h0 : vsx = [] := by have := hvx.len; simpa using this
        rw [h0] at hsrc
        rw [List.append_nil] at hss
        simp -dsimp -implicitDefEqProofs only [go_sem, C_P, C_deep, reduceCtorEq, Nat.reduceAdd, Nat.reduceLeDiff, Nat.reduceLT, Nat.reduceEqDiff, Nat.reduceMul, Nat.reduceSub, Nat.reducePow, Int.reduceToNat, Int.reduceLE, Int.reduceLT, Int.reduceEq, ho.append_zero hsrc, wrap_succ (show k < 9223372036854775807 by omega)]
        exact ⟨g, vo, vx, Jo, Jx, by rw [hss]; exact ho, hx, fun q e e' => (hxs q e').1 e, rfl⟩
      · have hroom : ((stacks a (k + 1)).length + (lev a 0 (k + 1)).length) * 24 ≤ 140737488355328 := by
          have h3 := lev_len (a := a) (off := 0) (k := k + 1)
          have h4 : 2 ^ a.length ≤ 2 ^ 8 := Nat.pow_le_pow_right (by decide) hn
          have h5 := hbig (k + 1) (by omega)
          omega
        refine WXh_ol ho hsrc he hvx hroom ?_
        rintro vo' g' Jo' wr h1 h2 h3 h4
        simp -dsimp -implicitDefEqProofs only [go_sem, C_P, C_deep, reduceCtorEq, Nat.reduceAdd, Nat.reduceLeDiff, Nat.reduceLT, Nat.reduceEqDiff, Nat.reduceMul, Nat.reduceSub, Nat.reducePow, Int.reduceToNat, Int.reduceLE, Int.reduceLT, Int.reduceEq, addWs_own h4, wrap_succ (show k < 9223372036854775807 by omega)]
        have hx' := hx.pr h2 ho.notIn (fun q e e' => (hxs q e').1 e)
        refine ⟨g', vo', vx, Jo', Jx, by rw [hss]; exact h1, hx', ?_, rfl⟩
        rcases h3 with rfl | ⟨q, hq, rfl⟩
        · exact fun q e e' => (hxs q e').1 e
        · intro q' e e'
          cases e
          have := (e' ▸ hx : OL _ _ _ _ (some q)).lt
          omega
  · rintro st ⟨g, vo, vl, Jo, Jl, ho, hl, hol, hst⟩
    rw [hst]
    generalize gv st = x
    obtain ⟨sv, hr, hsv⟩ := reify_OL (k := 3) ho
    simp -dsimp -implicitDefEqProofs only [go_sem, C_P, C_deep, reduceCtorEq, Nat.reduceAdd, Nat.reduceLeDiff, Nat.reduceLT, Nat.reduceEqDiff, Nat.reduceMul, Nat.reduceSub, Nat.reducePow, Int.reduceToNat, Int.reduceLE, Int.reduceLT, Int.reduceEq, hr]
    exact hsv

theorem eq31_nils : binOpP PP .eql 31 .nils .nils = some (.bool true) := by kernel_rfl
theorem eq31_tree {es lim} : binOpP PP .eql 31 (.tree es lim) .nils = some (.bool false) := by kernel_rfl
theorem stkV_get {ss : List (List Nat)} {i : Nat} {s} (h : ss[i]? = some s) : (stkV ss)[i]? = some [mkS (nats s)] := by unfold stkV; rw [List.getElem?_map, h]; rfl
theorem stkV_len (ss : List (List Nat)) : (stkV ss).length = ss.length := by simp [stkV]
theorem mem_stacks {a : List Int} {k : Nat} {s} (h : s ∈ stacks a k) : s.length ≤ k ∧ ∀ i ∈ s, i < a.length := by
  unfold stacks at h
  rw [List.mem_flatMap] at h
  obtain ⟨j, hj, hs⟩ := h
  obtain ⟨h1, h2⟩ := lev_mem hs
  exact ⟨by have := List.mem_range.1 hj; omega, fun i hi => by have := h2 i hi; omega⟩
def isT (set : List Int) (n : Int) (s : List Nat) : Bool := tot set s == n
def bestV (set : List Int) (n : Int) : PV := match (stacks set (set.length + 1)).find? (isT set n) with
  | some s => mkS (nats s)
  | none => .nils
theorem find_take {α : Type} {p : α → Bool} {l : List α} {i : Nat} {x : α} (h : l[i]? = some x) (h0 : (l.take i).find? p = none) (hp : p x = true) : l.find? p = some x := by
  have : l = l.take i ++ x :: l.drop (i + 1) := by
    obtain ⟨hi, e⟩ := List.getElem?_eq_some_iff.1 h
    have h2 := List.take_append_drop i l
    rw [List.drop_eq_getElem_cons hi, e] at h2
    exact h2.symm
  rw [this, List.find?_append, h0]
  simp [hp]
def I70 (set : List Int) (n : Int) (sv s1 : PV) (H : Heap) (i : Nat) (st : St) : Prop :=
  ((stacks set (set.length + 1)).take i).find? (isT set n) = none ∧
    st = ⟨[sv, .int .i64 n, gv st 2, gv st 3, .nils, s1, .int .i64 i, gv st 7, gv st 8, gv st 9, gv st 10, gv st 11, gv st 12, gv st 13, gv st 14, gv st 15, gv st 16, gv st 17, gv st 18, gv st 19, gv st 20, gv st 21, gv st 22, gv st 23, gv st 24, gv st 25, gv st 26, gv st 27], [] :: H, []⟩
set_option maxRecDepth 100000 in
theorem best70 {sv set} {n : Int} (hs : SV sv (ints set)) (hsm : Small set) (hn : set.length ≤ 8) : Pure C 70 [sv, .int .i64 n] (bestV set n) := by
  intro H
  refine WC_own (fn := Tryd.f70) Tryd.func70 rfl rfl rfl (Or.inl rfl) ?_; simp only [Tryd.f70, List.replicate, List.length_cons, List.length_nil, Nat.reduceSub, Nat.reduceAdd, List.cons_append, List.nil_append]
  simp -dsimp -implicitDefEqProofs only [go_sem, C_P, C_deep, reduceCtorEq, Nat.reduceAdd, Nat.reduceLeDiff, Nat.reduceLT, Nat.reduceEqDiff, Nat.reduceMul, Nat.reduceSub, Nat.reducePow, Int.reduceToNat, Int.reduceLE, Int.reduceLT, Int.reduceEq, len_SV sl_31 hs, ints_len]
  refine WCh_of (stacks82 set hn _) ?_
  rintro s1 _ _ ⟨hsv, rfl, rfl⟩
  have hln := len_SV sl_130 hsv
  rw [stkV_len] at hln
  have hbig : (stacks set (set.length + 1)).length ≤ 9 * 256 := by
    have := stacks_len set (set.length + 1)
    have h2 : 2 ^ set.length ≤ 2 ^ 8 := Nat.pow_le_pow_right (by decide) hn
    have h3 : (set.length + 1) * 2 ^ set.length ≤ 9 * 256 := Nat.mul_le_mul (by omega) h2
    omega
  simp -dsimp -implicitDefEqProofs only [go_sem, C_P, C_deep, reduceCtorEq, Nat.reduceAdd, Nat.reduceLeDiff, Nat.reduceLT, Nat.reduceEqDiff, Nat.reduceMul, Nat.reduceSub, Nat.reducePow, Int.reduceToNat, Int.reduceLE, Int.reduceLT, Int.reduceEq]
  refine WL_for (stacks set (set.length + 1)).length (I70 set n sv s1 H) ⟨rfl, rfl⟩ ?_ ?_
  · rintro i st hi ⟨h0, hst⟩
    rw [hst]
    generalize gv st = x
    have hd : decide ((i : Int) < (stacks set (set.length + 1)).length) = true := by simp; omega
    obtain ⟨s, hsi⟩ : ∃ s, (stacks set (set.length + 1))[i]? = some s := ⟨_, List.getElem?_eq_getElem hi⟩
    obtain ⟨hsl, hsb⟩ := mem_stacks (List.mem_of_getElem? hsi)
    have hix := index_SV (k := .i64) sl_130 hsv (stkV_get hsi) rfl
    have htw : totW set s = tot set s := totW_eq hsm (by omega)
    have hte : (tot set s == n) = isT set n s := rfl
    simp -dsimp -implicitDefEqProofs only [go_sem, C_P, C_deep, reduceCtorEq, Nat.reduceAdd, Nat.reduceLeDiff, Nat.reduceLT, Nat.reduceEqDiff, Nat.reduceMul, Nat.reduceSub, Nat.reducePow, Int.reduceToNat, Int.reduceLE, Int.reduceLT, Int.reduceEq, hln, hd, hix, WCh_pure (total83 hs (mkS_SV (nats s)) hsb (by omega)), htw, hte]
    refine Br_intro (fun h1 => ?_) (fun h1 => ?_)
    · simp -dsimp -implicitDefEqProofs only [go_sem, C_P, C_deep, reduceCtorEq, Nat.reduceAdd, Nat.reduceLeDiff, Nat.reduceLT, Nat.reduceEqDiff, Nat.reduceMul, Nat.reduceSub, Nat.reducePow, Int.reduceToNat, Int.reduceLE, Int.reduceLT, Int.reduceEq, hix, mkS_reify (k := 4) (nats_scal s)]
      unfold bestV
      rw [find_take hsi h0 h1]
    · simp -dsimp -implicitDefEqProofs only [go_sem, C_P, C_deep, reduceCtorEq, Nat.reduceAdd, Nat.reduceLeDiff, Nat.reduceLT, Nat.reduceEqDiff, Nat.reduceMul, Nat.reduceSub, Nat.reducePow, Int.reduceToNat, Int.reduceLE, Int.reduceLT, Int.reduceEq, wrap_succ (show i < 9223372036854775807 by omega)]
      refine ⟨?_, rfl⟩
      rw [← take_snoc hsi, List.find?_append, h0]
      simp [h1]
  · rintro st ⟨h0, hst⟩
    rw [hst]
    generalize gv st = x
    rw [List.take_length] at h0
    simp -dsimp -implicitDefEqProofs only [go_sem, C_P, C_deep, reduceCtorEq, Nat.reduceAdd, Nat.reduceLeDiff, Nat.reduceLT, Nat.reduceEqDiff, Nat.reduceMul, Nat.reduceSub, Nat.reducePow, Int.reduceToNat, Int.reduceLE, Int.reduceLT, Int.reduceEq, hln]
    unfold bestV
    rw [h0]
/-- The fewest blocks for a length, or the error. -/
def fewRes (set : List Int) (n : Int) : PV :=
  if chkSet set ≠ 0 then .tup [.nils, .int .i64 (chkSet set)] else if inR_ n 1 100000 = false then .tup [.nils, .int .i64 2]
  else match fewest set n with
    | some s => .tup [mkS (nats s), .int .i64 0]
    | none => .tup [.nils, .int .i64 6]
theorem chkFrom_small {l : List Int} : ∀ {k i : Nat}, chkFrom l k i = 0 → ∀ j, i ≤ j → j < i + k → inR_ (l.getD j 0) 1 100000 = true
  | 0, i, _, j, h1, h2 => by omega
  | k + 1, i, h, j, h1, h2 => by
    rw [chkFrom] at h
    split at h
    · omega
    · rename_i hin
      split at h
      · omega
      · rcases Nat.eq_or_lt_of_le h1 with e | e
        · subst e; simpa using hin
        · exact chkFrom_small h j e (by omega)
theorem chkSet_small {l : List Int} (h : chkSet l = 0) : Small l := by
  unfold chkSet at h
  split at h
  · omega
  · intro x hx
    obtain ⟨j, hj, e⟩ := List.getElem_of_mem hx
    have := chkFrom_small h j (Nat.zero_le _) (by omega)
    rw [List.getD_eq_getElem?_getD, List.getElem?_eq_getElem hj, e] at this
    exact inR_true.1 this
theorem Small.pos {l : List Int} (h : Small l) : Pos l := fun x hx => by have := h x hx; omega
theorem bestV_eq {set : List Int} {n : Int} (hs : Small set) (hn : set.length ≤ 8) : bestV set n = match fewest set n with
    | some s => mkS (nats s)
    | none => .nils := by
  unfold bestV
  rw [show isT set n = fun s => tot set s == n from rfl, find_fewest set hs.pos (by omega) n]
theorem fewest_ne {set : List Int} {n : Int} {s} (hs : Pos set) (hn : 1 ≤ n) (h : fewest set n = some s) : s ≠ [] := by
  rintro rfl
  unfold fewest at h
  split at h
  · rename_i h0
    have h1 := fk_of_fN (off := 0) hs h0
    have h2 : fG set 0 n = [] := by injection h
    rw [h2] at h1
    have h3 : (lev set 0 (fN set n)).find? (fun s => tot set s == n) = some [] := by
      have := find_lev set n set [] (fN set n) 0 rfl
      rw [Int.sub_zero] at this
      have h4 : (fun s => 0 + tot set s == n) = fun s => tot set s == n := by funext s; rw [Int.zero_add]
      rw [h4] at this
      rw [← h1]; exact this
    have := List.find?_some h3
    simp [tot] at this
    omega
  · cases h
set_option maxRecDepth 100000 in
theorem few54 {sv set} {n : Int} (hs : SV sv (ints set)) (hn : set.length ≤ 8) : Pure C 54 [sv, .int .i64 n] (fewRes set n) := by
  intro H
  refine WC_own (fn := Tryd.f54) Tryd.func54 rfl rfl rfl (Or.inl rfl) ?_; simp only [Tryd.f54, List.replicate, List.length_cons, List.length_nil, Nat.reduceSub, Nat.reduceAdd, List.cons_append, List.nil_append]
  simp -dsimp -implicitDefEqProofs only [go_sem, C_P, C_deep, reduceCtorEq, Nat.reduceAdd, Nat.reduceLeDiff, Nat.reduceLT, Nat.reduceEqDiff, Nat.reduceMul, Nat.reduceSub, Nat.reducePow, Int.reduceToNat, Int.reduceLE, Int.reduceLT, Int.reduceEq, WCh_pure (chk53 hs)]
  unfold fewRes
  refine Br_intro (fun h => ?_) (fun h => ?_)
  · simp -dsimp -implicitDefEqProofs only [go_sem, C_P, C_deep, reduceCtorEq, Nat.reduceAdd, Nat.reduceLeDiff, Nat.reduceLT, Nat.reduceEqDiff, Nat.reduceMul, Nat.reduceSub, Nat.reducePow, Int.reduceToNat, Int.reduceLE, Int.reduceLT, Int.reduceEq]
    rw [if_pos (by simpa using h)]
  · have hc : chkSet set = 0 := by simpa using h
    have hsm := chkSet_small hc
    rw [if_neg (by simp [hc])]
    simp -dsimp -implicitDefEqProofs only [go_sem, C_P, C_deep, reduceCtorEq, Nat.reduceAdd, Nat.reduceLeDiff, Nat.reduceLT, Nat.reduceEqDiff, Nat.reduceMul, Nat.reduceSub, Nat.reducePow, Int.reduceToNat, Int.reduceLE, Int.reduceLT, Int.reduceEq, WCh_pure (ins69 _)]
    refine Br_intro (fun h => ?_) (fun h => ?_)
    · simp -dsimp -implicitDefEqProofs only [go_sem, C_P, C_deep, reduceCtorEq, Nat.reduceAdd, Nat.reduceLeDiff, Nat.reduceLT, Nat.reduceEqDiff, Nat.reduceMul, Nat.reduceSub, Nat.reducePow, Int.reduceToNat, Int.reduceLE, Int.reduceLT, Int.reduceEq]
      rw [if_pos (by simpa using h)]
    · have h1 : inR_ n 1 100000 = true := by simpa using h
      rw [if_neg (by simp [h1])]
      simp -dsimp -implicitDefEqProofs only [go_sem, C_P, C_deep, reduceCtorEq, Nat.reduceAdd, Nat.reduceLeDiff, Nat.reduceLT, Nat.reduceEqDiff, Nat.reduceMul, Nat.reduceSub, Nat.reducePow, Int.reduceToNat, Int.reduceLE, Int.reduceLT, Int.reduceEq, WCh_pure (best70 (n := n) hs hsm hn), bestV_eq hsm hn]
      cases hf : fewest set n with
      | none => simp -dsimp -implicitDefEqProofs only [go_sem, C_P, C_deep, reduceCtorEq, Nat.reduceAdd, Nat.reduceLeDiff, Nat.reduceLT, Nat.reduceEqDiff, Nat.reduceMul, Nat.reduceSub, Nat.reducePow, Int.reduceToNat, Int.reduceLE, Int.reduceLT, Int.reduceEq, eq31_nils]
      | some s =>
        have hne := fewest_ne hsm.pos (inR_true.1 h1).1 hf
        have hmk : mkS (nats s) = .tree (nats s) false := mkS_ne (by simpa [nats] using hne)
        have hrf : reify ([] :: H) H.length 5 (.tree (nats s) false) = some (.tree (nats s) false) := reify_tree (k := 3) (nats_scal s)
        simp -dsimp -implicitDefEqProofs only [go_sem, C_P, C_deep, reduceCtorEq, Nat.reduceAdd, Nat.reduceLeDiff, Nat.reduceLT, Nat.reduceEqDiff, Nat.reduceMul, Nat.reduceSub, Nat.reducePow, Int.reduceToNat, Int.reduceLE, Int.reduceLT, Int.reduceEq, hmk, eq31_tree, hrf]

theorem wrapU {n : Int} (h : 0 ≤ n ∧ n < 18446744073709551616) : IntKind.u64.wrap n = n := by
  unfold IntKind.wrap
  simp [IntKind.bits, IntKind.signed]
  omega
theorem and_mask {y : Int} (h : 0 ≤ y ∧ y < 4294967296) : bitsP .and .u64 y 4294967295 = some (.int .u64 y) := by
  obtain ⟨n, rfl⟩ := Int.eq_ofNat_of_zero_le h.1
  have hn : n < 4294967296 := by omega
  have e1 : (BitVec.ofInt 64 (n : Int) &&& BitVec.ofInt 64 4294967295).toNat = n := by
    rw [BitVec.toNat_and]
    have e2 : (BitVec.ofInt 64 (n : Int)).toNat = n := by rw [BitVec.ofInt_natCast, BitVec.toNat_ofNat]; exact Nat.mod_eq_of_lt (by omega)
    have e3 : (BitVec.ofInt 64 4294967295).toNat = 2 ^ 32 - 1 := by decide
    rw [e2, e3, Nat.and_two_pow_sub_one_eq_mod]
    exact Nat.mod_eq_of_lt hn
  show some (PV.int .u64 (IntKind.u64.wrap ((BitVec.ofInt 64 (n : Int) &&& BitVec.ofInt 64 4294967295).toNat : Int))) = _
  rw [e1, wrapU (by omega)]
theorem shr_32 {y : Int} (h : 0 ≤ y ∧ y < 4294967296) : shiftP .shr .u64 y 32 = some (.int .u64 0) := by
  show some (PV.int .u64 (y.fdiv (2 ^ 32))) = _
  rw [Int.fdiv_eq_ediv_of_nonneg _ (by decide), Int.ediv_eq_zero_of_lt h.1 (by omega)]
set_option maxRecDepth 100000 in
theorem mul100 {y : Int} (h : 0 ≤ y ∧ y < 4294967296) : Pure C 100 [.int .u64 1, .int .u64 y] (.tup [.int .u64 0, .int .u64 y]) := by
  intro H
  refine WC_own (fn := Tryd.f100) Tryd.func100 rfl rfl rfl (Or.inl rfl) ?_; simp only [Tryd.f100, List.replicate, List.length_cons, List.length_nil, Nat.reduceSub, Nat.reduceAdd, List.cons_append, List.nil_append]
  have w0 : IntKind.u64.wrap 0 = 0 := by decide
  simp -dsimp -implicitDefEqProofs only [go_sem, C_P, C_deep, reduceCtorEq, Nat.reduceAdd, Nat.reduceLeDiff, Nat.reduceLT, Nat.reduceEqDiff, Nat.reduceMul, Nat.reduceSub, Nat.reducePow, Int.reduceToNat, Int.reduceLE, Int.reduceLT, Int.reduceEq, bin_and, bin_shr, and_mask (y := 1) (by decide), and_mask (y := 0) (by decide), and_mask h, shr_32 (y := 1) (by decide), shr_32 (y := 0) (by decide), shr_32 h, w0, wrapU (n := y) (by omega), Int.one_mul, Int.zero_mul, Int.mul_zero, Int.zero_add, Int.add_zero]
set_option maxRecDepth 100000 in
theorem mul94 {y : Int} (h : 0 ≤ y ∧ y < 4294967296) : Pure C 94 [.int .u64 1, .int .u64 y] (.tup [.int .u64 0, .int .u64 y]) := by
  intro H
  refine WC_own (fn := Tryd.f94) Tryd.func94 rfl rfl rfl (Or.inl rfl) ?_; simp only [Tryd.f94, List.replicate, List.length_cons, List.length_nil, Nat.reduceSub, Nat.reduceAdd, List.cons_append, List.nil_append]
  simp -dsimp -implicitDefEqProofs only [go_sem, C_P, C_deep, reduceCtorEq, Nat.reduceAdd, Nat.reduceLeDiff, Nat.reduceLT, Nat.reduceEqDiff, Nat.reduceMul, Nat.reduceSub, Nat.reducePow, Int.reduceToNat, Int.reduceLE, Int.reduceLT, Int.reduceEq, WCh_pure (mul100 h)]
theorem slice119_lo {H d i u off len n} (hn : n < len) : sliceP PP H 119 (.sl d i u off len 1 true) (some (.int .i64 (n : Int))) none none = some (.sl d i u (off + n) (len - n) 1 true) := by
  have hu : PP.underlying 119 = some (.slice 21) := by kernel_rfl
  have h1 : tsz PP 21 = some 1 := by kernel_rfl
  unfold sliceP
  rw [hu]
  simp only [h1, Option.bind_some, bnd, idx]
  rw [if_pos (by omega : (0 : Int) ≤ (n : Int))]
  simp only [Option.bind_some, Int.toNat_natCast]
  rw [if_pos ⟨trivial, by decide, by omega, by omega, trivial⟩]
  simp only [Option.isSome_none, Bool.false_eq_true, if_false]
  rw [if_neg (by omega), if_neg (by simp), Nat.mul_one]
theorem slice119_hi {H d i u len n cells} (ho : getO H d i = some ⟨cells, u, 0⟩) (hc : cells.length = len) (hn : n < len) : sliceP PP H 119 (.sl d i u 0 len 1 true) none (some (.int .i64 (n : Int))) none = some (.sl d i u 0 n 1 false) := by
  have hu : PP.underlying 119 = some (.slice 21) := by kernel_rfl
  have h1 : tsz PP 21 = some 1 := by kernel_rfl
  unfold sliceP
  rw [hu]
  simp only [h1, Option.bind_some, bnd, idx]
  rw [if_pos (by omega : (0 : Int) ≤ (n : Int))]
  simp only [Option.bind_some, Int.toNat_natCast]
  rw [if_pos ⟨trivial, by decide, by omega, by omega, trivial⟩]
  simp only [Option.isSome_none, Bool.false_eq_true, if_false]
  rw [if_neg (by omega), if_pos ⟨trivial, hn⟩, ho]
  simp only [Option.bind_some]
  rw [if_pos ⟨trivial, by omega⟩]
  simp
/-- Some cells written, the others zero. -/
def repC (v : PV) (n len : Nat) : List PV := List.replicate n v ++ List.replicate (len - n) (.int .i32 0)
theorem repC_len {v n len} (h : n ≤ len) : (repC v n len).length = len := by simp [repC]; omega
theorem repC_take {v n len} : (repC v n len).take n = List.replicate n v := by
  unfold repC; rw [List.take_left' (by simp)]
theorem repC_splice {v n m len} (h : n + m ≤ len) : (repC v n len).take n ++ (List.replicate m v ++ (repC v n len).drop (n + m)) = repC v (n + m) len := by
  rw [repC_take]
  unfold repC
  rw [List.drop_append, List.length_replicate, List.drop_eq_nil_of_le (by simp), List.nil_append, show n + m - n = m by omega, List.drop_replicate, ← List.append_assoc, List.replicate_append_replicate]
  congr 2
  omega
theorem copy119 {f : List AObj} {fs : Heap} {j u off len lim src n} {cells cs : List PV} (ho : f[j]? = some ⟨cells, u, u⟩ ∨ f[j]? = some ⟨cells, u, 0⟩) (hsrc : srcCells (f :: fs) 1 src = some (n, cs)) (hm : 0 < min n len) (hc : off + len ≤ cells.length) (hl : cs.length = n) :
    copyP PP (f :: fs) 119 (.sl fs.length j u off len 1 lim) src = some (.int .i64 ((min n len : Nat) : Int), f.set j ⟨splice cells off (cs.take (min n len)), u, u⟩ :: fs, [(fs.length, j)]) := by
  have hu : PP.underlying 119 = some (.slice 21) := by kernel_rfl
  have h1 : tsz PP 21 = some 1 := by kernel_rfl
  have hst : ∃ lo, f[j]? = some ⟨cells, u, lo⟩ := by rcases ho with h | h <;> exact ⟨_, h⟩
  obtain ⟨lo, ho'⟩ := hst
  unfold copyP
  rw [hu]
  simp only [h1, Option.bind_some]
  rw [if_neg (by decide), hsrc]
  simp only [Option.bind_some]
  rw [if_neg (by simp), if_neg (by omega), Nat.mul_one, Nat.mul_one]
  unfold storeC
  rw [getO_cons_self, ho']
  simp only [Option.bind_some]
  rw [if_pos ⟨trivial, by rw [List.length_take]; omega, hc, .inl rfl⟩, setO_cons_self]
  rfl

theorem repl_one_cell (n : Nat) (v : PV) : repl n [v] = List.replicate n v := by
  unfold repl
  induction n with
  | zero => rfl
  | succ n ih => rw [List.replicate_succ, List.flatten_cons, ih, List.replicate_succ]; rfl
theorem mk119 {H : Heap} {c : Nat} (hc : c * 4 ≤ 140737488355328) : makeSliceP PP H 119 (.int .i64 (c : Int)) (.int .i64 (c : Int)) = some (.sl (curD H) (curN H) 0 0 c 1 true, newO H (List.replicate c (.int .i32 0))) := by
  have hu : PP.underlying 119 = some (.slice 21) := by kernel_rfl
  have h1 : tsz PP 21 = some 1 := by kernel_rfl
  have h2 : tby PP 21 = some 4 := by kernel_rfl
  have h3 : tzero PP 21 = some (.int .i32 0) := by kernel_rfl
  unfold makeSliceP
  rw [hu]
  simp only [h1, h2, h3, Option.bind_some]
  rw [if_pos ⟨by decide, rfl, by omega, by omega, by rw [Int.toNat_natCast]; exact room_ok (by decide) (Nat.le_refl c) hc⟩]
  simp [cellsOf, repl_one_cell]
def I90 (f : List AObj) (H : Heap) (j c : Nat) (v : PV) (n : Nat) (st : St) : Prop :=
  1 ≤ n ∧ n ≤ c ∧ st = ⟨[.sl H.length j 0 0 1 1 true, .int .i64 (c : Int), gv st 2, gv st 3, .nils, gv st 5, gv st 6, .sl H.length f.length 0 0 c 1 true, .int .i64 (n : Int), gv st 9, gv st 10, gv st 11, gv st 12, gv st 13, gv st 14, gv st 15, gv st 16, gv st 17, gv st 18, gv st 19, gv st 20, gv st 21, gv st 22, gv st 23, gv st 24, gv st 25, gv st 26, gv st 27, gv st 28, gv st 29, gv st 30, gv st 31, gv st 32, gv st 33, gv st 34, gv st 35, gv st 36, gv st 37, gv st 38, gv st 39, gv st 40, gv st 41, gv st 42, gv st 43, gv st 44, gv st 45, gv st 46, gv st 47], (f ++ [⟨repC v n c, 0, 0⟩]) :: H, []⟩
set_option maxRecDepth 100000 in
theorem repeat90 {f : List AObj} {H : Heap} {j c : Nat} {v : PV} (hj : f[j]? = some ⟨[v], 0, 0⟩) (hc : 1 ≤ c ∧ c < 4294967296) {K t}
    (hK : K (.sl H.length f.length 0 0 c 1 true) ((f ++ [⟨List.replicate c v, 0, 0⟩]) :: H) []) : WCh C 90 [.sl H.length j 0 0 1 1 true, .int .i64 (c : Int)] (f :: H) K t := by
  suffices h : WC C 90 [.sl H.length j 0 0 1 1 true, .int .i64 (c : Int)] (f :: H) fun v' H' d => v' = .sl H.length f.length 0 0 c 1 true ∧ H' = (f ++ [⟨List.replicate c v, 0, 0⟩]) :: H ∧ d = [] from
    WCh_of h fun v' H' d ⟨h1, h2, h3⟩ => by rw [h1, h2, h3]; exact hK
  have hjl := (List.getElem?_eq_some_iff.1 hj).1
  have hju : ∀ y : List AObj, (f ++ y)[j]? = some ⟨[v], 0, 0⟩ := fun y => by rw [List.getElem?_append_left hjl]; exact hj
  refine WC_inl (fn := Tryd.f90) Tryd.func90 rfl rfl rfl rfl (List.cons_ne_nil _ _) ?_; simp only [Tryd.f90, List.replicate, List.length_cons, List.length_nil, Nat.reduceSub, Nat.reduceAdd, List.cons_append, List.nil_append]
  have hdr := dr_90; simp only [drwF, Tryd.f90, drw, cond_true, cond_false, List.append_nil, List.nil_append, List.cons_append, List.map_cons, List.map_nil, List.cons.injEq, and_true] at hdr
  have hneg : decide ((c : Int) < 0) = false := decide_eq_false (by omega)
  have w1 : IntKind.u64.wrap ((1 : Nat) : Int) = 1 := by decide
  have wc : IntKind.u64.wrap (c : Int) = c := wrapU (by omega)
  have wi : IntKind.i64.wrap (c : Int) = c := wrap64 (by omega)
  have g0 : decide ((0 : Int) > 0) = false := rfl
  have g1 : decide ((c : Int) > 9223372036854775807) = false := decide_eq_false (by omega)
  have hsrc1 : srcCells ((f ++ [⟨List.replicate c (.int .i32 0), 0, 0⟩]) :: H) 1 (.sl H.length j 0 0 1 1 true) = some (1, [v]) := by
    unfold srcCells; simp only []; rw [getO_cons_self, hju]; rfl
  have hmin : 0 < min 1 c := by rw [Nat.min_eq_left hc.1]; decide
  have hcp1 := copy119 (f := f ++ [⟨List.replicate c (.int .i32 0), 0, 0⟩]) (fs := H) (j := f.length) (u := 0) (off := 0) (len := c) (lim := true) (.inr (by rw [getElem?_app]; rfl)) hsrc1 hmin (by simp) rfl
  rw [Nat.min_eq_left hc.1, show splice (List.replicate c (PV.int .i32 0)) 0 ([v].take 1) = repC v 1 c by
    unfold splice repC; rw [List.take_zero, List.nil_append, show [v].take 1 = [v] from rfl, List.length_singleton, List.drop_replicate]; rfl] at hcp1
  simp -dsimp -implicitDefEqProofs only [go_sem, C_P, C_deep, reduceCtorEq, Nat.reduceAdd, Nat.reduceLeDiff, Nat.reduceLT, Nat.reduceEqDiff, Nat.reduceMul, Nat.reduceSub, Nat.reducePow, Int.reduceToNat, Int.reduceLE, Int.reduceLT, Int.reduceEq, hneg, cv_3_141, w1, wc, WCh_pure (mul94 (y := (c : Int)) (by omega)), g0, g1, wi, ↓WS_makeSlice, mk119 (show c * 4 ≤ 140737488355328 by omega), hcp1]
  refine WL_inv (I90 f H j c v) (fun n => c - n) 1 ⟨Nat.le_refl _, hc.1, rfl⟩ ?_
  rintro n st ⟨hn1, hnc, hst⟩
  rw [hst]
  generalize gv st = x
  simp -dsimp -implicitDefEqProofs only [go_sem, C_P, C_deep, reduceCtorEq, Nat.reduceAdd, Nat.reduceLeDiff, Nat.reduceLT, Nat.reduceEqDiff, Nat.reduceMul, Nat.reduceSub, Nat.reducePow, Int.reduceToNat, Int.reduceLE, Int.reduceLT, Int.reduceEq]
  refine Br_intro (fun h => ?_) (fun h => ?_)
  · have hlt : n < c := by have := of_decide_eq_true h; omega
    have hl := repC_len (v := v) hnc
    have ho : (f ++ [⟨repC v n c, 0, 0⟩])[f.length]? = some ⟨repC v n c, 0, 0⟩ := by rw [getElem?_app]; rfl
    have hs1 := slice119_lo (H := (f ++ [⟨repC v n c, 0, 0⟩]) :: H) (d := H.length) (i := f.length) (u := 0) (off := 0) hlt
    have hs2 := slice119_hi (H := (f ++ [⟨repC v n c, 0, 0⟩]) :: H) (d := H.length) (i := f.length) (u := 0) (by rw [getO_cons_self]; exact ho) hl hlt
    have hsrc2 : srcCells ((f ++ [⟨repC v n c, 0, 0⟩]) :: H) 1 (.sl H.length f.length 0 0 n 1 false) = some (n, List.replicate n v) := by
      unfold srcCells; simp only []; rw [getO_cons_self, ho]
      simp only [Option.bind_some]
      rw [if_pos ⟨Nat.le_refl _, Nat.le_refl _, trivial, by omega⟩, List.drop_zero, Nat.mul_one, repC_take]
    have hcp2 := copy119 (f := f ++ [⟨repC v n c, 0, 0⟩]) (fs := H) (j := f.length) (u := 0) (off := n) (len := c - n) (lim := true) (.inr ho) hsrc2 (by omega) (by omega) (by simp)
    rw [List.take_replicate, show min (min n (c - n)) n = min n (c - n) by omega, show splice (repC v n c) n (List.replicate (min n (c - n)) v) = repC v (n + min n (c - n)) c by
      unfold splice; rw [List.length_replicate, List.append_assoc]; exact repC_splice (by omega)] at hcp2
    have hw : IntKind.i64.wrap ((n : Int) + ((min n (c - n) : Nat) : Int)) = ((n + min n (c - n) : Nat) : Int) := by rw [wrap64 (by omega)]; omega
    rw [Nat.zero_add] at hs1
    simp -dsimp -implicitDefEqProofs only [go_sem, C_P, C_deep, reduceCtorEq, Nat.reduceAdd, Nat.reduceLeDiff, Nat.reduceLT, Nat.reduceEqDiff, Nat.reduceMul, Nat.reduceSub, Nat.reducePow, Int.reduceToNat, Int.reduceLE, Int.reduceLT, Int.reduceEq, ↓W_drawnL hdr, ↓WS_sliceS, hs1, hs2, hcp2, hw]
    exact ⟨n + min n (c - n), by omega, by omega, by omega, rfl⟩
  · have he : n = c := by have := of_decide_eq_false h; omega
    subst he
    simp -dsimp -implicitDefEqProofs only [go_sem, C_P, C_deep, reduceCtorEq, Nat.reduceAdd, Nat.reduceLeDiff, Nat.reduceLT, Nat.reduceEqDiff, Nat.reduceMul, Nat.reduceSub, Nat.reducePow, Int.reduceToNat, Int.reduceLE, Int.reduceLT, Int.reduceEq]
    unfold repC
    rw [Nat.sub_self, List.replicate_zero, List.append_nil]

/-- The slice reads as these numbers, in the heap and with whatever frames above. -/
def RV (H : Heap) (sv : PV) (l : List Int) : Prop := lenP PP 31 sv = some (.int .i64 l.length) ∧
  ∀ i, i < l.length → ∃ a, (∀ k, indexAddrP PP 31 sv (.int k (i : Int)) = some a) ∧ ∀ fs : Heap, loadP PP (fs ++ H) 3 a = some (.int .i64 (l.getD i 0))
theorem RV.up {H sv l} (h : RV H sv l) (f : List AObj) : RV (f :: H) sv l := by
  refine ⟨h.1, fun i hi => ?_⟩
  obtain ⟨a, h1, h2⟩ := h.2 i hi
  exact ⟨a, h1, fun fs => by have := h2 (fs ++ [f]); rwa [List.append_assoc] at this⟩
theorem RV.get {H sv l i} (h : RV H sv l) (hi : i < l.length) : ∃ a, (∀ k, indexAddrP PP 31 sv (.int k (i : Int)) = some a) ∧ ∀ f : List AObj, loadP PP (f :: H) 3 a = some (.int .i64 (l.getD i 0)) := by
  obtain ⟨a, h1, h2⟩ := h.2 i hi
  exact ⟨a, h1, fun f => h2 [f]⟩
theorem RV.of {H sv l} (hs : SV sv (ints l)) : RV H sv l := by
  refine ⟨by rw [len_SV sl_31 hs, ints_len], fun i hi => ⟨_, fun k => index_SV sl_31 hs (ints_get hi) rfl, fun fs => ?_⟩⟩
  rw [ldt_3]; rfl
theorem RV.acc {H : Heap} {D k : Nat} {p g : List AObj} {av : PV} {l : List Int} (h : Acc 1 D k g av (ints l)) (hD : D = H.length) (hk : p.length = k) : RV ((p ++ g) :: H) av l := by
  rcases h with ⟨hlen, ⟨rfl, h0⟩ | ⟨hne, j, u, lo', rfl, hj, hlo⟩⟩
  · have : l = [] := by cases l with | nil => rfl | cons a l => simp [ints] at h0
    subst this
    exact ⟨ln_31, fun i hi => by simp at hi⟩
  · refine ⟨by rw [ls_31, ints_len], fun i hi => ⟨.ref D (k + j) u i (i + 1), fun kk => ?_, fun fs => ?_⟩⟩
    · rw [ia_31, if_pos ⟨by omega, by rw [Int.toNat_natCast, ints_len]; exact hi, rfl⟩, Int.toNat_natCast, Nat.mul_one, Nat.zero_add]
    · have ho : getO ((p ++ g) :: H) D (k + j) = some ⟨(ints l).flatten, u, lo'⟩ := by rw [hD, getO_cons_self, getElem?_pre hk]; exact hj
      have hou : getO (fs ++ (p ++ g) :: H) D (k + j) = some ⟨(ints l).flatten, u, lo'⟩ := by
        induction fs with
        | nil => exact ho
        | cons f fs ih => exact getO_up ih f
      have hfl : (ints l).flatten = l.map fun n => PV.int .i64 n := by
        clear hj ho hou hne hlen hi
        induction l with
        | nil => rfl
        | cons a l ih => simp [ints] at ih ⊢; exact ih
      rw [ld_3, hou]
      simp only [Option.bind_some]
      rw [if_pos ⟨hlo, Nat.le_refl _, Nat.le_refl _, by rw [hfl, List.length_map]; omega⟩, hfl, List.getElem?_map, List.getElem?_eq_getElem hi, List.getD_eq_getElem?_getD, List.getElem?_eq_getElem hi]
      rfl
set_option maxRecDepth 100000 in
theorem chk52h {H sv l} (hr : RV H sv l) {K t} : WCh C 52 [sv] H K t = K (.int .i64 (chkSet l)) H [] := by
  refine WCh_keep ?_
  refine WC_own (fn := Tryd.f52) Tryd.func52 rfl rfl rfl (Or.inl rfl) ?_; simp only [Tryd.f52, List.replicate, List.length_cons, List.length_nil, Nat.reduceSub, Nat.reduceAdd, List.cons_append, List.nil_append]
  simp -dsimp -implicitDefEqProofs only [go_sem, C_P, C_deep, reduceCtorEq, Nat.reduceAdd, Nat.reduceLeDiff, Nat.reduceLT, Nat.reduceEqDiff, Nat.reduceMul, Nat.reduceSub, Nat.reducePow, Int.reduceToNat, Int.reduceLE, Int.reduceLT, Int.reduceEq, hr.1]
  unfold chkSet
  refine Br_intro (fun h => ?_) (fun h => ?_)
  · simp -dsimp -implicitDefEqProofs only [go_sem, C_P, C_deep, reduceCtorEq, Nat.reduceAdd, Nat.reduceLeDiff, Nat.reduceLT, Nat.reduceEqDiff, Nat.reduceMul, Nat.reduceSub, Nat.reducePow, Int.reduceToNat, Int.reduceLE, Int.reduceLT, Int.reduceEq]
    rw [if_pos (by have := of_decide_eq_true h; omega)]
  · have hn : l.length ≤ 256 := by have := of_decide_eq_false h; omega
    simp -dsimp -implicitDefEqProofs only [go_sem, C_P, C_deep, reduceCtorEq, Nat.reduceAdd, Nat.reduceLeDiff, Nat.reduceLT, Nat.reduceEqDiff, Nat.reduceMul, Nat.reduceSub, Nat.reducePow, Int.reduceToNat, Int.reduceLE, Int.reduceLT, Int.reduceEq, hr.1]
    rw [if_neg (by omega)]
    refine WL_for l.length (I52 l sv H) ⟨rfl, rfl⟩ ?_ ?_
    · skip
      rintro i st hi ⟨hR, hst⟩
      rw [hst]
      generalize gv st = x
      have hd : decide ((i : Int) < l.length) = true := by simp; omega
      have hk : l.length - i = (l.length - (i + 1)) + 1 := by omega
      obtain ⟨ad, hia, hld⟩ := hr.get hi
      rw [hk, chkFrom] at hR
      simp -dsimp -implicitDefEqProofs only [go_sem, C_P, C_deep, reduceCtorEq, Nat.reduceAdd, Nat.reduceLeDiff, Nat.reduceLT, Nat.reduceEqDiff, Nat.reduceMul, Nat.reduceSub, Nat.reducePow, Int.reduceToNat, Int.reduceLE, Int.reduceLT, Int.reduceEq, hd, hia, hld, WCh_pure (ins68 _)]
      refine Br_intro (fun h => ?_) (fun h => ?_)
      · simp -dsimp -implicitDefEqProofs only [go_sem, C_P, C_deep, reduceCtorEq, Nat.reduceAdd, Nat.reduceLeDiff, Nat.reduceLT, Nat.reduceEqDiff, Nat.reduceMul, Nat.reduceSub, Nat.reducePow, Int.reduceToNat, Int.reduceLE, Int.reduceLT, Int.reduceEq]
        rw [← hR, if_pos (by simpa using h)]
      · simp -dsimp -implicitDefEqProofs only [go_sem, C_P, C_deep, reduceCtorEq, Nat.reduceAdd, Nat.reduceLeDiff, Nat.reduceLT, Nat.reduceEqDiff, Nat.reduceMul, Nat.reduceSub, Nat.reducePow, Int.reduceToNat, Int.reduceLE, Int.reduceLT, Int.reduceEq]
        rw [if_neg (by simpa using h)] at hR
        refine Br_intro (fun h1 => ?_) (fun h1 => ?_)
        · have hi0 : 0 < i := by have := of_decide_eq_true h1; omega
          have hsub : IntKind.i64.wrap ((i : Int) - 1) = ((i - 1 : Nat) : Int) := by rw [wrap64 (by omega)]; omega
          obtain ⟨ad2, hia2, hld2⟩ := hr.get (show i - 1 < l.length by omega)
          simp -dsimp -implicitDefEqProofs only [go_sem, C_P, C_deep, reduceCtorEq, Nat.reduceAdd, Nat.reduceLeDiff, Nat.reduceLT, Nat.reduceEqDiff, Nat.reduceMul, Nat.reduceSub, Nat.reducePow, Int.reduceToNat, Int.reduceLE, Int.reduceLT, Int.reduceEq, h1, hsub, hia2, hld2]
          refine Br_intro (fun h2 => ?_) (fun h2 => ?_)
          · simp -dsimp -implicitDefEqProofs only [go_sem, C_P, C_deep, reduceCtorEq, Nat.reduceAdd, Nat.reduceLeDiff, Nat.reduceLT, Nat.reduceEqDiff, Nat.reduceMul, Nat.reduceSub, Nat.reducePow, Int.reduceToNat, Int.reduceLE, Int.reduceLT, Int.reduceEq]
            rw [← hR, if_pos ⟨hi0, of_decide_eq_true h2⟩]
          · simp -dsimp -implicitDefEqProofs only [go_sem, C_P, C_deep, reduceCtorEq, Nat.reduceAdd, Nat.reduceLeDiff, Nat.reduceLT, Nat.reduceEqDiff, Nat.reduceMul, Nat.reduceSub, Nat.reducePow, Int.reduceToNat, Int.reduceLE, Int.reduceLT, Int.reduceEq, wrap_succ (show i < 9223372036854775807 by omega)]
            rw [if_neg (fun h3 => of_decide_eq_false h2 h3.2)] at hR
            exact ⟨hR, rfl⟩
        · simp -dsimp -implicitDefEqProofs only [go_sem, C_P, C_deep, reduceCtorEq, Nat.reduceAdd, Nat.reduceLeDiff, Nat.reduceLT, Nat.reduceEqDiff, Nat.reduceMul, Nat.reduceSub, Nat.reducePow, Int.reduceToNat, Int.reduceLE, Int.reduceLT, Int.reduceEq, h1, wrap_succ (show i < 9223372036854775807 by omega)]
          rw [if_neg (fun h3 => of_decide_eq_false h1 (by omega))] at hR
          exact ⟨hR, rfl⟩
    · rintro st ⟨hR, hst⟩
      rw [hst]
      generalize gv st = x
      rw [Nat.sub_self, chkFrom] at hR
      simp -dsimp -implicitDefEqProofs only [go_sem, C_P, C_deep, reduceCtorEq, Nat.reduceAdd, Nat.reduceLeDiff, Nat.reduceLT, Nat.reduceEqDiff, Nat.reduceMul, Nat.reduceSub, Nat.reducePow, Int.reduceToNat, Int.reduceLE, Int.reduceLT, Int.reduceEq, ← hR]
set_option maxRecDepth 100000 in
theorem chk53h {H sv l} (hr : RV H sv l) {K t} : WCh C 53 [sv] H K t = K (.int .i64 (chkSet l)) H [] := by
  refine WCh_keep ?_
  refine WC_own (fn := Tryd.f53) Tryd.func53 rfl rfl rfl (Or.inl rfl) ?_; simp only [Tryd.f53, List.replicate, List.length_cons, List.length_nil, Nat.reduceSub, Nat.reduceAdd, List.cons_append, List.nil_append]
  have hdr := dr_53; simp only [drwF, Tryd.f53, drw, cond_true, cond_false, List.append_nil, List.nil_append, List.cons_append, List.map_cons, List.map_nil, List.cons.injEq, and_true] at hdr
  simp -dsimp -implicitDefEqProofs only [go_sem, C_P, C_deep, reduceCtorEq, Nat.reduceAdd, Nat.reduceLeDiff, Nat.reduceLT, Nat.reduceEqDiff, Nat.reduceMul, Nat.reduceSub, Nat.reducePow, Int.reduceToNat, Int.reduceLE, Int.reduceLT, Int.reduceEq, hr.1]
  unfold chkSet
  refine Br_intro (fun h => ?_) (fun h => ?_)
  · simp -dsimp -implicitDefEqProofs only [go_sem, C_P, C_deep, reduceCtorEq, Nat.reduceAdd, Nat.reduceLeDiff, Nat.reduceLT, Nat.reduceEqDiff, Nat.reduceMul, Nat.reduceSub, Nat.reducePow, Int.reduceToNat, Int.reduceLE, Int.reduceLT, Int.reduceEq]
    rw [if_pos (by have := of_decide_eq_true h; omega)]
  · have hn : l.length ≤ 256 := by have := of_decide_eq_false h; omega
    simp -dsimp -implicitDefEqProofs only [go_sem, C_P, C_deep, reduceCtorEq, Nat.reduceAdd, Nat.reduceLeDiff, Nat.reduceLT, Nat.reduceEqDiff, Nat.reduceMul, Nat.reduceSub, Nat.reducePow, Int.reduceToNat, Int.reduceLE, Int.reduceLT, Int.reduceEq, hr.1]
    rw [if_neg (by omega)]
    refine WL_for l.length (I53 l sv H) ⟨rfl, rfl⟩ ?_ ?_
    · skip
      rintro i st hi ⟨hR, hst⟩
      rw [hst]
      generalize gv st = x
      have hd : decide ((i : Int) < l.length) = true := by simp; omega
      have hk : l.length - i = (l.length - (i + 1)) + 1 := by omega
      obtain ⟨ad, hia, hld⟩ := hr.get hi
      rw [hk, chkFrom] at hR
      simp -dsimp -implicitDefEqProofs only [go_sem, C_P, C_deep, reduceCtorEq, Nat.reduceAdd, Nat.reduceLeDiff, Nat.reduceLT, Nat.reduceEqDiff, Nat.reduceMul, Nat.reduceSub, Nat.reducePow, Int.reduceToNat, Int.reduceLE, Int.reduceLT, Int.reduceEq, hd, hr.1, hia, hld]
      refine Br_intro (fun h => ?_) (fun h => ?_)
      · simp -dsimp -implicitDefEqProofs only [go_sem, C_P, C_deep, reduceCtorEq, Nat.reduceAdd, Nat.reduceLeDiff, Nat.reduceLT, Nat.reduceEqDiff, Nat.reduceMul, Nat.reduceSub, Nat.reducePow, Int.reduceToNat, Int.reduceLE, Int.reduceLT, Int.reduceEq, h]
        rw [← hR, if_pos (by have := of_decide_eq_true h; rw [inR_false]; omega)]
      · simp -dsimp -implicitDefEqProofs only [go_sem, C_P, C_deep, reduceCtorEq, Nat.reduceAdd, Nat.reduceLeDiff, Nat.reduceLT, Nat.reduceEqDiff, Nat.reduceMul, Nat.reduceSub, Nat.reducePow, Int.reduceToNat, Int.reduceLE, Int.reduceLT, Int.reduceEq, h, hia, hld]
        refine Br_intro (fun h' => ?_) (fun h' => ?_)
        · simp -dsimp -implicitDefEqProofs only [go_sem, C_P, C_deep, reduceCtorEq, Nat.reduceAdd, Nat.reduceLeDiff, Nat.reduceLT, Nat.reduceEqDiff, Nat.reduceMul, Nat.reduceSub, Nat.reducePow, Int.reduceToNat, Int.reduceLE, Int.reduceLT, Int.reduceEq]
          rw [← hR, if_pos (by have := of_decide_eq_true h'; rw [inR_false]; omega)]
        · have hin : ¬ inR_ (l.getD i 0) 1 100000 = false := by
            have := of_decide_eq_false h; have := of_decide_eq_false h'; rw [inR_false]; omega
          rw [if_neg hin] at hR
          simp -dsimp -implicitDefEqProofs only [go_sem, C_P, C_deep, reduceCtorEq, Nat.reduceAdd, Nat.reduceLeDiff, Nat.reduceLT, Nat.reduceEqDiff, Nat.reduceMul, Nat.reduceSub, Nat.reducePow, Int.reduceToNat, Int.reduceLE, Int.reduceLT, Int.reduceEq, ↓W_drawnL hdr]
          refine Br_intro (fun h1 => ?_) (fun h1 => ?_)
          · have hi0 : 0 < i := by have := of_decide_eq_true h1; omega
            have hsub : IntKind.i64.wrap ((i : Int) - 1) = ((i - 1 : Nat) : Int) := by rw [wrap64 (by omega)]; omega
            obtain ⟨ad2, hia2, hld2⟩ := hr.get (show i - 1 < l.length by omega)
            simp -dsimp -implicitDefEqProofs only [go_sem, C_P, C_deep, reduceCtorEq, Nat.reduceAdd, Nat.reduceLeDiff, Nat.reduceLT, Nat.reduceEqDiff, Nat.reduceMul, Nat.reduceSub, Nat.reducePow, Int.reduceToNat, Int.reduceLE, Int.reduceLT, Int.reduceEq, h1, hsub, hia, hld, hia2, hld2]
            refine Br_intro (fun h2 => ?_) (fun h2 => ?_)
            · simp -dsimp -implicitDefEqProofs only [go_sem, C_P, C_deep, reduceCtorEq, Nat.reduceAdd, Nat.reduceLeDiff, Nat.reduceLT, Nat.reduceEqDiff, Nat.reduceMul, Nat.reduceSub, Nat.reducePow, Int.reduceToNat, Int.reduceLE, Int.reduceLT, Int.reduceEq]
              rw [← hR, if_pos ⟨hi0, of_decide_eq_true h2⟩]
            · simp -dsimp -implicitDefEqProofs only [go_sem, C_P, C_deep, reduceCtorEq, Nat.reduceAdd, Nat.reduceLeDiff, Nat.reduceLT, Nat.reduceEqDiff, Nat.reduceMul, Nat.reduceSub, Nat.reducePow, Int.reduceToNat, Int.reduceLE, Int.reduceLT, Int.reduceEq, wrap_succ (show i < 9223372036854775807 by omega)]
              rw [if_neg (fun h3 => of_decide_eq_false h2 h3.2)] at hR
              exact ⟨hR, rfl⟩
          · simp -dsimp -implicitDefEqProofs only [go_sem, C_P, C_deep, reduceCtorEq, Nat.reduceAdd, Nat.reduceLeDiff, Nat.reduceLT, Nat.reduceEqDiff, Nat.reduceMul, Nat.reduceSub, Nat.reducePow, Int.reduceToNat, Int.reduceLE, Int.reduceLT, Int.reduceEq, h1, wrap_succ (show i < 9223372036854775807 by omega)]
            rw [if_neg (fun h3 => of_decide_eq_false h1 (by omega))] at hR
            exact ⟨hR, rfl⟩
    · rintro st ⟨hR, hst⟩
      rw [hst]
      generalize gv st = x
      rw [Nat.sub_self, chkFrom] at hR
      simp -dsimp -implicitDefEqProofs only [go_sem, C_P, C_deep, reduceCtorEq, Nat.reduceAdd, Nat.reduceLeDiff, Nat.reduceLT, Nat.reduceEqDiff, Nat.reduceMul, Nat.reduceSub, Nat.reducePow, Int.reduceToNat, Int.reduceLE, Int.reduceLT, Int.reduceEq, hr.1, ← hR]
set_option maxRecDepth 100000 in
theorem total83h {H sv s1 set s} (hr : RV H sv set) (h1 : SV s1 (nats s)) (hb : ∀ i ∈ s, i < set.length) (hn : s.length ≤ 1000) {K t} : WCh C 83 [sv, s1] H K t = K (.int .i64 (totW set s)) H [] := by
  refine WCh_keep ?_
  refine WC_own (fn := Tryd.f83) Tryd.func83 rfl rfl rfl (Or.inl rfl) ?_; simp only [Tryd.f83, List.replicate, List.length_cons, List.length_nil, Nat.reduceSub, Nat.reduceAdd, List.cons_append, List.nil_append]
  simp -dsimp -implicitDefEqProofs only [go_sem, C_P, C_deep, reduceCtorEq, Nat.reduceAdd, Nat.reduceLeDiff, Nat.reduceLT, Nat.reduceEqDiff, Nat.reduceMul, Nat.reduceSub, Nat.reducePow, Int.reduceToNat, Int.reduceLE, Int.reduceLT, Int.reduceEq]
  have hln := len_SV sl_31 h1
  rw [nats_len] at hln
  refine WL_for s.length (I83 set sv s1 s H) rfl ?_ ?_
  · rintro i st hi hst
    rw [I83] at hst
    rw [hst]
    generalize gv st = x
    have hd : decide ((i : Int) < s.length) = true := by simp; omega
    obtain ⟨n, hni⟩ : ∃ n, s[i]? = some n := ⟨_, List.getElem?_eq_getElem hi⟩
    have hnl := hb n (List.mem_of_getElem? hni)
    have hsum : IntKind.i64.wrap (totW set (s.take i) + set.getD n 0) = totW set (s.take (i + 1)) := by rw [← take_snoc hni, totW_snoc]
    obtain ⟨ad, hia, hld⟩ := hr.get hnl
    simp -dsimp -implicitDefEqProofs only [go_sem, C_P, C_deep, reduceCtorEq, Nat.reduceAdd, Nat.reduceLeDiff, Nat.reduceLT, Nat.reduceEqDiff, Nat.reduceMul, Nat.reduceSub, Nat.reducePow, Int.reduceToNat, Int.reduceLE, Int.reduceLT, Int.reduceEq, hln, hd, index_SV (k := .i64) sl_31 h1 (nats_get hni) rfl, hia, hld, hsum, wrap_succ (show i < 9223372036854775807 by omega)]
    exact rfl
  · rintro st hst
    rw [I83] at hst
    rw [hst]
    generalize gv st = x
    simp -dsimp -implicitDefEqProofs only [go_sem, C_P, C_deep, reduceCtorEq, Nat.reduceAdd, Nat.reduceLeDiff, Nat.reduceLT, Nat.reduceEqDiff, Nat.reduceMul, Nat.reduceSub, Nat.reducePow, Int.reduceToNat, Int.reduceLE, Int.reduceLT, Int.reduceEq, hln, List.take_length]
set_option maxRecDepth 100000 in
theorem best70h {H sv set} {n : Int} (hr : RV H sv set) (hsm : Small set) (hn : set.length ≤ 8) {K t} : WCh C 70 [sv, .int .i64 n] H K t = K (bestV set n) H [] := by
  refine WCh_keep ?_
  have hr1 := hr.up []
  refine WC_own (fn := Tryd.f70) Tryd.func70 rfl rfl rfl (Or.inl rfl) ?_; simp only [Tryd.f70, List.replicate, List.length_cons, List.length_nil, Nat.reduceSub, Nat.reduceAdd, List.cons_append, List.nil_append]
  simp -dsimp -implicitDefEqProofs only [go_sem, C_P, C_deep, reduceCtorEq, Nat.reduceAdd, Nat.reduceLeDiff, Nat.reduceLT, Nat.reduceEqDiff, Nat.reduceMul, Nat.reduceSub, Nat.reducePow, Int.reduceToNat, Int.reduceLE, Int.reduceLT, Int.reduceEq, hr.1]
  refine WCh_of (stacks82 set hn _) ?_
  rintro s1 _ _ ⟨hsv, rfl, rfl⟩
  have hln := len_SV sl_130 hsv
  rw [stkV_len] at hln
  have hbig : (stacks set (set.length + 1)).length ≤ 9 * 256 := by
    have := stacks_len set (set.length + 1)
    have h2 : 2 ^ set.length ≤ 2 ^ 8 := Nat.pow_le_pow_right (by decide) hn
    have h3 : (set.length + 1) * 2 ^ set.length ≤ 9 * 256 := Nat.mul_le_mul (by omega) h2
    omega
  simp -dsimp -implicitDefEqProofs only [go_sem, C_P, C_deep, reduceCtorEq, Nat.reduceAdd, Nat.reduceLeDiff, Nat.reduceLT, Nat.reduceEqDiff, Nat.reduceMul, Nat.reduceSub, Nat.reducePow, Int.reduceToNat, Int.reduceLE, Int.reduceLT, Int.reduceEq]
  refine WL_for (stacks set (set.length + 1)).length (I70 set n sv s1 H) ⟨rfl, rfl⟩ ?_ ?_
  · rintro i st hi ⟨h0, hst⟩
    rw [hst]
    generalize gv st = x
    have hd : decide ((i : Int) < (stacks set (set.length + 1)).length) = true := by simp; omega
    obtain ⟨s, hsi⟩ : ∃ s, (stacks set (set.length + 1))[i]? = some s := ⟨_, List.getElem?_eq_getElem hi⟩
    obtain ⟨hsl, hsb⟩ := mem_stacks (List.mem_of_getElem? hsi)
    have hix := index_SV (k := .i64) sl_130 hsv (stkV_get hsi) rfl
    have htw : totW set s = tot set s := totW_eq hsm (by omega)
    have hte : (tot set s == n) = isT set n s := rfl
    simp -dsimp -implicitDefEqProofs only [go_sem, C_P, C_deep, reduceCtorEq, Nat.reduceAdd, Nat.reduceLeDiff, Nat.reduceLT, Nat.reduceEqDiff, Nat.reduceMul, Nat.reduceSub, Nat.reducePow, Int.reduceToNat, Int.reduceLE, Int.reduceLT, Int.reduceEq, hln, hd, hix, total83h hr1 (mkS_SV (nats s)) hsb (by omega), htw, hte]
    refine Br_intro (fun h1 => ?_) (fun h1 => ?_)
    · simp -dsimp -implicitDefEqProofs only [go_sem, C_P, C_deep, reduceCtorEq, Nat.reduceAdd, Nat.reduceLeDiff, Nat.reduceLT, Nat.reduceEqDiff, Nat.reduceMul, Nat.reduceSub, Nat.reducePow, Int.reduceToNat, Int.reduceLE, Int.reduceLT, Int.reduceEq, hix, mkS_reify (k := 4) (nats_scal s)]
      unfold bestV
      rw [find_take hsi h0 h1]
    · simp -dsimp -implicitDefEqProofs only [go_sem, C_P, C_deep, reduceCtorEq, Nat.reduceAdd, Nat.reduceLeDiff, Nat.reduceLT, Nat.reduceEqDiff, Nat.reduceMul, Nat.reduceSub, Nat.reducePow, Int.reduceToNat, Int.reduceLE, Int.reduceLT, Int.reduceEq, wrap_succ (show i < 9223372036854775807 by omega)]
      refine ⟨?_, rfl⟩
      rw [← take_snoc hsi, List.find?_append, h0]
      simp [h1]
  · rintro st ⟨h0, hst⟩
    rw [hst]
    generalize gv st = x
    rw [List.take_length] at h0
    simp -dsimp -implicitDefEqProofs only [go_sem, C_P, C_deep, reduceCtorEq, Nat.reduceAdd, Nat.reduceLeDiff, Nat.reduceLT, Nat.reduceEqDiff, Nat.reduceMul, Nat.reduceSub, Nat.reducePow, Int.reduceToNat, Int.reduceLE, Int.reduceLT, Int.reduceEq, hln]
    unfold bestV
    rw [h0]
set_option maxRecDepth 100000 in
theorem few54h {H sv set} {n : Int} (hr : RV H sv set) (hn : set.length ≤ 8) {K t} : WCh C 54 [sv, .int .i64 n] H K t = K (fewRes set n) H [] := by
  refine WCh_keep ?_
  have hr1 := hr.up []
  refine WC_own (fn := Tryd.f54) Tryd.func54 rfl rfl rfl (Or.inl rfl) ?_; simp only [Tryd.f54, List.replicate, List.length_cons, List.length_nil, Nat.reduceSub, Nat.reduceAdd, List.cons_append, List.nil_append]
  simp -dsimp -implicitDefEqProofs only [go_sem, C_P, C_deep, reduceCtorEq, Nat.reduceAdd, Nat.reduceLeDiff, Nat.reduceLT, Nat.reduceEqDiff, Nat.reduceMul, Nat.reduceSub, Nat.reducePow, Int.reduceToNat, Int.reduceLE, Int.reduceLT, Int.reduceEq, chk53h hr1]
  unfold fewRes
  refine Br_intro (fun h => ?_) (fun h => ?_)
  · simp -dsimp -implicitDefEqProofs only [go_sem, C_P, C_deep, reduceCtorEq, Nat.reduceAdd, Nat.reduceLeDiff, Nat.reduceLT, Nat.reduceEqDiff, Nat.reduceMul, Nat.reduceSub, Nat.reducePow, Int.reduceToNat, Int.reduceLE, Int.reduceLT, Int.reduceEq]
    rw [if_pos (by simpa using h)]
  · have hc : chkSet set = 0 := by simpa using h
    have hsm := chkSet_small hc
    rw [if_neg (by simp [hc])]
    simp -dsimp -implicitDefEqProofs only [go_sem, C_P, C_deep, reduceCtorEq, Nat.reduceAdd, Nat.reduceLeDiff, Nat.reduceLT, Nat.reduceEqDiff, Nat.reduceMul, Nat.reduceSub, Nat.reducePow, Int.reduceToNat, Int.reduceLE, Int.reduceLT, Int.reduceEq, WCh_pure (ins69 _)]
    refine Br_intro (fun h => ?_) (fun h => ?_)
    · simp -dsimp -implicitDefEqProofs only [go_sem, C_P, C_deep, reduceCtorEq, Nat.reduceAdd, Nat.reduceLeDiff, Nat.reduceLT, Nat.reduceEqDiff, Nat.reduceMul, Nat.reduceSub, Nat.reducePow, Int.reduceToNat, Int.reduceLE, Int.reduceLT, Int.reduceEq]
      rw [if_pos (by simpa using h)]
    · have h1 : inR_ n 1 100000 = true := by simpa using h
      rw [if_neg (by simp [h1])]
      simp -dsimp -implicitDefEqProofs only [go_sem, C_P, C_deep, reduceCtorEq, Nat.reduceAdd, Nat.reduceLeDiff, Nat.reduceLT, Nat.reduceEqDiff, Nat.reduceMul, Nat.reduceSub, Nat.reducePow, Int.reduceToNat, Int.reduceLE, Int.reduceLT, Int.reduceEq, best70h (n := n) hr1 hsm hn, bestV_eq hsm hn]
      cases hf : fewest set n with
      | none => simp -dsimp -implicitDefEqProofs only [go_sem, C_P, C_deep, reduceCtorEq, Nat.reduceAdd, Nat.reduceLeDiff, Nat.reduceLT, Nat.reduceEqDiff, Nat.reduceMul, Nat.reduceSub, Nat.reducePow, Int.reduceToNat, Int.reduceLE, Int.reduceLT, Int.reduceEq, eq31_nils]
      | some s =>
        have hne := fewest_ne hsm.pos (inR_true.1 h1).1 hf
        have hmk : mkS (nats s) = .tree (nats s) false := mkS_ne (by simpa [nats] using hne)
        have hrf : reify ([] :: H) H.length 5 (.tree (nats s) false) = some (.tree (nats s) false) := reify_tree (k := 3) (nats_scal s)
        simp -dsimp -implicitDefEqProofs only [go_sem, C_P, C_deep, reduceCtorEq, Nat.reduceAdd, Nat.reduceLeDiff, Nat.reduceLT, Nat.reduceEqDiff, Nat.reduceMul, Nat.reduceSub, Nat.reducePow, Int.reduceToNat, Int.reduceLE, Int.reduceLT, Int.reduceEq, hmk, eq31_tree, hrf]
end Go.Proofs.YtbcmiddffckgmaaDoor.Am
