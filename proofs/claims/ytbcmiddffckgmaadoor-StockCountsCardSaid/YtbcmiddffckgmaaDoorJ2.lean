/- The fewest blocks, the program; taking and returning. -/
import Derived.Test.YtbcmiddffckgmaaDoorJ1
import Derived.Test.YtbcmiddffckgmaaDoorS15
set_option linter.unusedVariables false
set_option linter.unusedSimpArgs false
set_option linter.unnecessarySimpa false
namespace Go.Proofs.YtbcmiddffckgmaaDoor.Am
open Go

theorem WS_slice3 {C : Cfg} {ts H t x lo hi mx K} : WS C ts H (.slice t x lo (some hi) (some mx)) K = WV ((evalO ts x).bind fun a =>
      (optO (evalO ts) lo).bind fun lo => (optO (evalO ts) (some hi)).bind fun hi => (optO (evalO ts) (some mx)).bind fun mx => sliceP C.P H t a lo hi mx) (fun v => K v H []) ⟨⟩ := WS_slice rfl
theorem slice119_3 {H d i u L l h} (hlh : l < h) (hL : h ≤ L) : sliceP PP H 119 (.sl d i u 0 L 1 true) (some (.int .i64 (l : Int))) (some (.int .i64 (h : Int))) (some (.int .i64 (h : Int))) = some (.sl d i u l (h - l) 1 true) := by
  have hu : PP.underlying 119 = some (.slice 21) := by kernel_rfl
  have h1 : tsz PP 21 = some 1 := by kernel_rfl
  unfold sliceP
  rw [hu]
  simp only [h1, Option.bind_some, bnd, idx]
  rw [if_pos (by omega : (0 : Int) ≤ (h : Int)), if_pos (by omega : (0 : Int) ≤ (l : Int))]
  simp only [Option.bind_some, Int.toNat_natCast]
  rw [if_pos ⟨trivial, by decide, by omega, hL, trivial⟩]
  simp only [Option.isSome_some, if_true]
  rw [if_neg (by omega), Nat.mul_one, Nat.zero_add]
set_option maxRecDepth 100000 in
theorem row74 {F : List AObj} {H : Heap} {sv : PV} {T c W L i : Nat} (hT : F[T]? = some ⟨[sv, .int .i64 (W : Int), .sl H.length c 0 0 L 1 true], 0, 0⟩) (hW : 0 < W ∧ W ≤ 200000) (hi : i ≤ 300) (hL : (i + 1) * W ≤ L) {K t} :
    WCh C 74 [.ref H.length T 0 0 3, .int .i64 (i : Int)] (F :: H) K t = K (.sl H.length c 0 (i * W) W 1 true) (F :: H) [] := by
  refine WCh_keep ?_
  have e : (i + 1) * W = i * W + W := by rw [Nat.add_mul, Nat.one_mul]
  have hb : i * W ≤ 300 * 200000 := Nat.mul_le_mul hi hW.2
  have w1 : IntKind.i64.wrap ((i : Int) + 1) = ((i + 1 : Nat) : Int) := wrap_succ (by omega)
  have w2 : IntKind.i64.wrap ((i : Int) * (W : Int)) = ((i * W : Nat) : Int) := by rw [← Int.natCast_mul, wrap64 (by omega)]
  have w3 : IntKind.i64.wrap (((i + 1 : Nat) : Int) * (W : Int)) = (((i + 1) * W : Nat) : Int) := by rw [← Int.natCast_mul, wrap64 (by omega)]
  have hsl := slice119_3 (H := F :: H) (d := H.length) (i := c) (u := 0) (show i * W < (i + 1) * W by omega) hL
  rw [show (i + 1) * W - i * W = W by omega] at hsl
  refine WC_inl (fn := Tryd.f74) Tryd.func74 rfl rfl rfl rfl (List.cons_ne_nil _ _) ?_; simp only [Tryd.f74, List.replicate, List.length_cons, List.length_nil, Nat.reduceSub, Nat.reduceAdd, List.cons_append, List.nil_append]
  have hdr := dr_74; simp only [drwF, Tryd.f74, drw, cond_true, cond_false, List.append_nil, List.nil_append, List.cons_append, List.map_cons, List.map_nil, List.cons.injEq, and_true] at hdr
  simp -dsimp -implicitDefEqProofs only [go_sem, C_P, C_deep, reduceCtorEq, Nat.reduceAdd, Nat.reduceLeDiff, Nat.reduceLT, Nat.reduceEqDiff, Nat.reduceMul, Nat.reduceSub, Nat.reducePow, Int.reduceToNat, Int.reduceLE, Int.reduceLT, Int.reduceEq, ↓W_drawnL hdr, hT, w1, w2, w3, ↓WS_slice3, hsl]
theorem min3 {a b c : Nat} : minMaxP false [.int .i32 (a : Int), .int .i32 (b : Int), .int .i32 (c : Int)] = some (.int .i32 ((min (min a b) c : Nat) : Int)) := by
  simp only [minMaxP, List.foldlM]
  simp only [Bool.false_eq_true, if_false]
  show some (PV.int .i32 _) = _
  congr 2
  omega
theorem wrap32 {n : Int} (h : 0 ≤ n ∧ n ≤ 2147483647) : IntKind.i32.wrap n = n := by
  unfold IntKind.wrap
  simp [IntKind.bits, IntKind.signed]
  omega
set_option maxRecDepth 100000 in
theorem join85 {a b : Nat} (hb : b ≤ 258) : Pure C 85 [.int .i32 (a : Int), .int .i32 (b : Int)] (.int .i32 ((min (min a (b + 1)) 258 : Nat) : Int)) := by
  intro H
  refine WC_own (fn := Tryd.f85) Tryd.func85 rfl rfl rfl (Or.inl rfl) ?_; simp only [Tryd.f85, List.replicate, List.length_cons, List.length_nil, Nat.reduceSub, Nat.reduceAdd, List.cons_append, List.nil_append]
  have w1 : IntKind.i32.wrap ((b : Int) + 1) = ((b + 1 : Nat) : Int) := by rw [wrap32 (by omega)]; omega
  have hm : minMaxP false [.int .i32 (a : Int), .int .i32 ((b + 1 : Nat) : Int), .int .i32 258] = _ := min3 (a := a) (b := b + 1) (c := 258)
  simp -dsimp -implicitDefEqProofs only [go_sem, C_P, C_deep, reduceCtorEq, Nat.reduceAdd, Nat.reduceLeDiff, Nat.reduceLT, Nat.reduceEqDiff, Nat.reduceMul, Nat.reduceSub, Nat.reducePow, Int.reduceToNat, Int.reduceLE, Int.reduceLT, Int.reduceEq, w1, hm]
theorem fN_258 : ∀ (a : List Int) (n : Int), fN a n ≤ 258
  | [], n => by rw [fN]; split <;> omega
  | x :: a, n => by rw [fN]; omega
/-- The table: the rows from q on are done, and of the one before them the first m places. -/
def TabP (set : List Int) (W q m : Nat) (cells : List PV) : Prop := cells.length = (set.length + 1) * W ∧
  ∀ r c, r ≤ set.length → c < W → cells[r * W + c]? = some (.int .i32 ((if q ≤ r ∨ (r + 1 = q ∧ c < m) then fN (set.drop r) (c : Int) else 258 : Nat) : Int))
theorem TabP.row {set W q m cells} (h : TabP set W q m cells) (hm : W ≤ m) (hq : 0 < q) : TabP set W (q - 1) 0 cells := by
  refine ⟨h.1, fun r c hr hc => ?_⟩
  rw [h.2 r c hr hc]
  congr 4
  apply propext
  omega
theorem pos_inj {W r c r' c' : Nat} (hc : c < W) (hc' : c' < W) (h : r * W + c = r' * W + c') : r = r' ∧ c = c' := by
  have hW : 0 < W := by omega
  have h1 : (r * W + c) / W = (r' * W + c') / W := by rw [h]
  have h2 : (r * W + c) % W = (r' * W + c') % W := by rw [h]
  rw [Nat.mul_comm r W, Nat.mul_comm r' W] at h1 h2
  rw [Nat.mul_add_div hW, Nat.mul_add_div hW, Nat.div_eq_of_lt hc, Nat.div_eq_of_lt hc'] at h1
  rw [Nat.mul_add_mod, Nat.mul_add_mod, Nat.mod_eq_of_lt hc, Nat.mod_eq_of_lt hc'] at h2
  omega
theorem pos_lt {W r c n : Nat} (hr : r ≤ n) (hc : c < W) : r * W + c < (n + 1) * W := by
  have := Nat.mul_le_mul_right W (show r + 1 ≤ n + 1 by omega)
  rw [Nat.add_mul r 1 W, Nat.one_mul] at this
  omega
/-- One place more. -/
theorem TabP.put {set W q m cells} (h : TabP set W q m cells) (hq : 0 < q) (hq' : q ≤ set.length) (hm : m < W) {v : Nat} (hv : v = fN (set.drop (q - 1)) (m : Int)) :
    TabP set W q (m + 1) (cells.take ((q - 1) * W + m) ++ .int .i32 (v : Int) :: cells.drop ((q - 1) * W + m + 1)) := by
  have hl : (q - 1) * W + m < cells.length := by rw [h.1]; exact pos_lt (by omega) hm
  have e : cells.take ((q - 1) * W + m) ++ .int .i32 (v : Int) :: cells.drop ((q - 1) * W + m + 1) = cells.set ((q - 1) * W + m) (.int .i32 (v : Int)) := by
    rw [List.set_eq_take_append_cons_drop, if_pos hl]
  rw [e]
  refine ⟨by rw [List.length_set]; exact h.1, fun r c hr hc => ?_⟩
  rw [List.getElem?_set]
  by_cases hp : (q - 1) * W + m = r * W + c
  · obtain ⟨h1, h2⟩ := pos_inj hm hc hp
    rw [if_pos hp, if_pos hl, if_pos (.inr ⟨by omega, by omega⟩), hv, h1, h2]
  · rw [if_neg hp, h.2 r c hr hc]
    have : ¬ (r + 1 = q ∧ c = m) := by
      rintro ⟨h1, h2⟩
      apply hp
      rw [h2, show q - 1 = r by omega]
    congr 4
    apply propext
    omega
theorem TabP.init {set W} (hW : 0 < W) : TabP set W set.length 0 ((List.replicate ((set.length + 1) * W) (PV.int .i32 258)).take (set.length * W) ++ .int .i32 0 :: (List.replicate ((set.length + 1) * W) (PV.int .i32 258)).drop (set.length * W + 1)) := by
  have hlt : set.length * W < (set.length + 1) * W := pos_lt (c := 0) (Nat.le_refl _) hW
  have e : (List.replicate ((set.length + 1) * W) (PV.int .i32 258)).take (set.length * W) ++ .int .i32 0 :: (List.replicate ((set.length + 1) * W) (PV.int .i32 258)).drop (set.length * W + 1) = (List.replicate ((set.length + 1) * W) (PV.int .i32 258)).set (set.length * W) (.int .i32 0) := by
    rw [List.set_eq_take_append_cons_drop, if_pos (by simpa using hlt)]
  rw [e]
  refine ⟨by simp, fun r c hr hc => ?_⟩
  rw [List.getElem?_set]
  by_cases hp : set.length * W = r * W + c
  · obtain ⟨h1, h2⟩ := pos_inj (c := 0) hW hc (by simpa using hp)
    subst h1; subst h2
    rw [if_pos hp, if_pos (by simpa using hlt), if_pos (.inl (Nat.le_refl _)), List.drop_length]
    simp [fN]
  · rw [if_neg hp, List.getElem?_replicate, if_pos (pos_lt hr hc)]
    by_cases hq : set.length ≤ r ∨ (r + 1 = set.length ∧ c < 0)
    · have hr' : r = set.length := by omega
      have hc0 : c ≠ 0 := by rintro rfl; apply hp; rw [hr']; rfl
      rw [if_pos hq, hr', List.drop_length, fN, if_neg (by omega)]; rfl
    · rw [if_neg hq]; rfl

theorem sum_small {a : List Int} (h : Small a) : 0 ≤ a.sum ∧ a.sum ≤ 100000 * a.length := by
  induction a with
  | nil => simp
  | cons x a ih =>
    have h1 := h x (by simp)
    have h2 := ih fun y hy => h y (by simp [hy])
    simp only [List.sum_cons, List.length_cons]
    omega
theorem Small.take {a : List Int} (h : Small a) (i : Nat) : Small (a.take i) := fun x hx => h x (List.mem_of_mem_take hx)
theorem sum_take {a : List Int} (h : Small a) (i : Nat) : 0 ≤ (a.take i).sum ∧ (a.take i).sum ≤ a.sum := by
  have h1 := sum_small (h.take i)
  have h2 : a.sum = (a.take i).sum + (a.drop i).sum := by conv => lhs; rw [← List.take_append_drop i a]; rw [List.sum_append]
  have h3 := sum_small (a := a.drop i) fun x hx => h x (List.mem_of_mem_drop hx)
  omega
theorem sum_snoc {a : List Int} {i : Nat} (hi : i < a.length) : (a.take i).sum + a.getD i 0 = (a.take (i + 1)).sum := by
  rw [List.take_succ_eq_append_getElem hi, List.sum_append, List.getD_eq_getElem?_getD, List.getElem?_eq_getElem hi]
  simp
theorem fN_big : ∀ {a : List Int} {n : Int}, Pos a → a.sum < n → fN a n = 258
  | [], n, _, h => by rw [fN, if_neg (by simp at h; omega)]
  | x :: a, n, hp, h => by
    rw [List.sum_cons] at h
    have := hp.head
    rw [fN, fN_big hp.tail (by omega), fN_big hp.tail (by omega)]
    split <;> rfl
def wid (set : List Int) (n : Nat) : Nat := (min set.sum (n : Int)).toNat + 1
def TabF (H : Heap) (sv : PV) (set : List Int) (n : Nat) (cells : List PV) : List AObj :=
  [⟨[sv, .int .i64 (wid set n : Int), .sl H.length 2 0 0 ((set.length + 1) * wid set n) 1 true], 0, 0⟩, ⟨[.int .i32 258], 0, 0⟩, ⟨cells, 0, 0⟩]
theorem min2 {a b : Int} : minMaxP false [.int .i64 a, .int .i64 b] = some (.int .i64 (min a b)) := by
  simp only [minMaxP, List.foldlM]
  simp only [Bool.false_eq_true, if_false]
  show some (PV.int .i64 _) = _
  congr 2
  omega
theorem TabF_0 {H sv set n cells} : (TabF H sv set n cells)[0]? = some ⟨[sv, .int .i64 (wid set n : Int), .sl H.length 2 0 0 ((set.length + 1) * wid set n) 1 true], 0, 0⟩ := rfl
theorem TabF_2 {H sv set n cells} : (TabF H sv set n cells)[2]? = some ⟨cells, 0, 0⟩ := rfl
theorem TabF_set {H sv set n cells cells'} : (TabF H sv set n cells).set 2 ⟨cells', 0, 0⟩ = TabF H sv set n cells' := rfl
theorem wid_pos {set n} : 0 < wid set n := by unfold wid; omega
def I84s (set : List Int) (sv : PV) (n : Nat) (H : Heap) (i : Nat) (st : St) : Prop :=
  st = ⟨[sv, .int .i64 (n : Int), .int .i32 258, .int .i32 0, .fn 85 [], gv st 5, gv st 6, gv st 7, gv st 8, gv st 9, gv st 10, .int .i64 (set.take i).sum, gv st 12, gv st 13, gv st 14, gv st 15, gv st 16, gv st 17, gv st 18, gv st 19, sv, .int .i64 set.length, .int .i64 i, gv st 23, gv st 24, gv st 25, gv st 26, gv st 27, gv st 28, gv st 29, gv st 30, gv st 31, gv st 32, gv st 33, gv st 34, gv st 35, gv st 36, gv st 37, gv st 38, gv st 39, gv st 40, gv st 41, gv st 42, gv st 43, gv st 44, gv st 45, gv st 46, gv st 47, gv st 48, gv st 49, gv st 50, gv st 51, gv st 52, gv st 53, gv st 54, gv st 55, gv st 56, gv st 57, gv st 58, gv st 59, gv st 60, gv st 61, gv st 62, gv st 63, gv st 64, gv st 65, gv st 66, gv st 67, gv st 68, gv st 69, gv st 70, gv st 71, gv st 72, gv st 73, gv st 74, gv st 75, gv st 76, gv st 77, gv st 78, gv st 79, gv st 80, gv st 81, gv st 82, gv st 83, gv st 84, gv st 85, gv st 86, gv st 87, gv st 88, gv st 89, gv st 90, gv st 91, gv st 92, gv st 93, gv st 94, gv st 95, gv st 96, gv st 97, gv st 98, gv st 99, gv st 100, gv st 101, gv st 102, gv st 103], [] :: H, []⟩
def I84o (set : List Int) (sv : PV) (n : Nat) (H : Heap) (q : Nat) (st : St) : Prop := q ≤ set.length ∧ ∃ cells, TabP set (wid set n) q 0 cells ∧
  st = ⟨[sv, .int .i64 (n : Int), .int .i32 258, .int .i32 0, .fn 85 [], gv st 5, gv st 6, gv st 7, gv st 8, gv st 9, gv st 10, gv st 11, gv st 12, gv st 13, .ref H.length 0 0 0 3, .int .i64 ((q : Int) - 1), gv st 16, gv st 17, gv st 18, gv st 19, gv st 20, gv st 21, gv st 22, gv st 23, gv st 24, gv st 25, gv st 26, gv st 27, gv st 28, gv st 29, gv st 30, gv st 31, gv st 32, gv st 33, gv st 34, gv st 35, gv st 36, gv st 37, gv st 38, gv st 39, gv st 40, gv st 41, gv st 42, gv st 43, gv st 44, gv st 45, gv st 46, gv st 47, gv st 48, gv st 49, gv st 50, gv st 51, gv st 52, gv st 53, gv st 54, gv st 55, gv st 56, gv st 57, gv st 58, gv st 59, gv st 60, gv st 61, gv st 62, gv st 63, gv st 64, gv st 65, gv st 66, gv st 67, gv st 68, gv st 69, gv st 70, gv st 71, gv st 72, gv st 73, gv st 74, gv st 75, gv st 76, gv st 77, gv st 78, gv st 79, gv st 80, gv st 81, gv st 82, gv st 83, gv st 84, gv st 85, gv st 86, gv st 87, gv st 88, gv st 89, gv st 90, gv st 91, gv st 92, gv st 93, gv st 94, gv st 95, gv st 96, gv st 97, gv st 98, gv st 99, gv st 100, gv st 101, gv st 102, gv st 103], TabF H sv set n cells :: H, []⟩
def I84i (set : List Int) (sv : PV) (n : Nat) (H : Heap) (q : Nat) (m : Nat) (st : St) : Prop := ∃ cells, TabP set (wid set n) (q + 1) m cells ∧
  st = ⟨[sv, .int .i64 (n : Int), .int .i32 258, .int .i32 0, .fn 85 [], gv st 5, gv st 6, gv st 7, gv st 8, gv st 9, gv st 10, gv st 11, gv st 12, gv st 13, .ref H.length 0 0 0 3, .int .i64 (q : Int), .sl H.length 2 0 ((q + 1) * wid set n) (wid set n) 1 true, .sl H.length 2 0 (q * wid set n) (wid set n) 1 true, gv st 18, gv st 19, gv st 20, gv st 21, gv st 22, gv st 23, gv st 24, gv st 25, gv st 26, gv st 27, gv st 28, gv st 29, gv st 30, gv st 31, gv st 32, gv st 33, gv st 34, gv st 35, gv st 36, gv st 37, gv st 38, gv st 39, gv st 40, gv st 41, gv st 42, gv st 43, gv st 44, gv st 45, gv st 46, gv st 47, gv st 48, gv st 49, gv st 50, gv st 51, gv st 52, gv st 53, gv st 54, gv st 55, gv st 56, gv st 57, gv st 58, gv st 59, gv st 60, gv st 61, gv st 62, gv st 63, gv st 64, gv st 65, gv st 66, gv st 67, gv st 68, gv st 69, gv st 70, .sl H.length 2 0 (q * wid set n) (wid set n) 1 true, .int .i64 (wid set n : Int), .int .i64 (m : Int), gv st 74, gv st 75, gv st 76, gv st 77, gv st 78, gv st 79, gv st 80, gv st 81, gv st 82, gv st 83, gv st 84, gv st 85, gv st 86, gv st 87, gv st 88, gv st 89, gv st 90, gv st 91, gv st 92, gv st 93, gv st 94, gv st 95, gv st 96, gv st 97, gv st 98, gv st 99, gv st 100, gv st 101, gv st 102, gv st 103], TabF H sv set n cells :: H, []⟩
set_option maxHeartbeats 2000000 in
set_option maxRecDepth 100000 in
theorem filled84 {H : Heap} {sv : PV} {set : List Int} {n : Nat} (hr : RV H sv set) (hcv : cellsOf sv = [sv] ∧ isTup sv = false) (hsm : Small set) (hlen : set.length ≤ 256) (hn : n ≤ 100000) :
    WC C 84 [sv, .int .i64 (n : Int), .int .i32 258, .int .i32 0, .fn 85 []] ([] :: H) fun v H' d => v = .ref H.length 0 0 0 3 ∧ d = [] ∧ ∃ cells, TabP set (wid set n) 0 0 cells ∧ H' = TabF H sv set n cells :: H := by
  have hss := sum_small hsm
  refine WC_inl (fn := Tryd.f84) Tryd.func84 rfl rfl rfl rfl (List.cons_ne_nil _ _) ?_; simp only [Tryd.f84, List.replicate, List.length_cons, List.length_nil, Nat.reduceSub, Nat.reduceAdd, List.cons_append, List.nil_append]
  simp -dsimp -implicitDefEqProofs only [go_sem, C_P, C_deep, reduceCtorEq, Nat.reduceAdd, Nat.reduceLeDiff, Nat.reduceLT, Nat.reduceEqDiff, Nat.reduceMul, Nat.reduceSub, Nat.reducePow, Int.reduceToNat, Int.reduceLE, Int.reduceLT, Int.reduceEq, hr.1]
  refine WL_for set.length (I84s set sv n H) rfl ?_ ?_
  · rintro i st hi hst
    rw [I84s] at hst
    rw [hst]
    generalize gv st = x
    have hd : decide ((i : Int) < set.length) = true := by simp; omega
    obtain ⟨ad, hia, hld⟩ := hr.get hi
    have hsum : IntKind.i64.wrap ((set.take i).sum + set.getD i 0) = (set.take (i + 1)).sum := by rw [sum_snoc hi, wrap64 (by have := sum_take hsm (i + 1); omega)]
    simp -dsimp -implicitDefEqProofs only [go_sem, C_P, C_deep, reduceCtorEq, Nat.reduceAdd, Nat.reduceLeDiff, Nat.reduceLT, Nat.reduceEqDiff, Nat.reduceMul, Nat.reduceSub, Nat.reducePow, Int.reduceToNat, Int.reduceLE, Int.reduceLT, Int.reduceEq, hd, hia, hld, hsum, wrap_succ (show i < 9223372036854775807 by omega)]
    exact rfl
  · rintro st hst
    rw [I84s] at hst
    rw [hst]
    generalize gv st = x
    have hW : IntKind.i64.wrap (min set.sum (n : Int) + 1) = (wid set n : Int) := by rw [wrap64 (by omega)]; unfold wid; omega
    have hwid : wid set n ≤ 100001 := by unfold wid; omega
    have hl1 : IntKind.i64.wrap ((set.length : Int) + 1) = ((set.length + 1 : Nat) : Int) := wrap_succ (by omega)
    have hL : (set.length + 1) * wid set n ≤ 257 * 100001 := Nat.mul_le_mul (by omega) hwid
    have hL2 : IntKind.i64.wrap (((set.length + 1 : Nat) : Int) * (wid set n : Int)) = (((set.length + 1) * wid set n : Nat) : Int) := by rw [← Int.natCast_mul, wrap64 (by omega)]
    simp -dsimp -implicitDefEqProofs only [go_sem, C_P, C_deep, reduceCtorEq, Nat.reduceAdd, Nat.reduceLeDiff, Nat.reduceLT, Nat.reduceEqDiff, Nat.reduceMul, Nat.reduceSub, Nat.reducePow, Int.reduceToNat, Int.reduceLE, Int.reduceLT, Int.reduceEq, List.take_length, min2, hW, hcv.1, hcv.2, hr.1, hl1, hL2]
    refine repeat90 rfl ⟨Nat.mul_pos (by omega) (by unfold wid; omega), by omega⟩ ?_
    simp -dsimp -implicitDefEqProofs only [go_sem, C_P, C_deep, reduceCtorEq, Nat.reduceAdd, Nat.reduceLeDiff, Nat.reduceLT, Nat.reduceEqDiff, Nat.reduceMul, Nat.reduceSub, Nat.reducePow, Int.reduceToNat, Int.reduceLE, Int.reduceLT, Int.reduceEq, hr.1]
    have hF : ([⟨[sv, .int .i64 (wid set n : Int), .sl H.length 2 0 0 ((set.length + 1) * wid set n) 1 true], 0, 0⟩, ⟨[.int .i32 258], 0, 0⟩, ⟨List.replicate ((set.length + 1) * wid set n) (PV.int .i32 258), 0, 0⟩] : List AObj) = TabF H sv set n (List.replicate ((set.length + 1) * wid set n) (PV.int .i32 258)) := rfl
    rw [hF]
    have hst1 : set.length * wid set n + 1 ≤ (set.length + 1) * wid set n := by rw [Nat.add_mul, Nat.one_mul]; have := wid_pos (set := set) (n := n); omega
    have hsub : IntKind.i64.wrap ((set.length : Int) - 1) = (set.length : Int) - 1 := wrap64 (by omega)
    simp -dsimp -implicitDefEqProofs only [go_sem, C_P, C_deep, reduceCtorEq, Nat.reduceAdd, Nat.reduceLeDiff, Nat.reduceLT, Nat.reduceEqDiff, Nat.reduceMul, Nat.reduceSub, Nat.reducePow, Int.reduceToNat, Int.reduceLE, Int.reduceLT, Int.reduceEq, row74 (F := TabF H sv set n (List.replicate ((set.length + 1) * wid set n) (PV.int .i32 258))) (i := set.length) TabF_0 ⟨wid_pos, by omega⟩ (by omega) (Nat.le_refl _), wid_pos, TabF_2, storeC, hst1, TabF_set, hr.1, hsub, List.length_replicate]
    refine WL_inv (I84o set sv n H) (fun q => q) set.length ⟨Nat.le_refl _, _, TabP.init wid_pos, rfl⟩ ?_
    clear hst st
    rintro q st ⟨hq, cells, hT, hst⟩
    rw [hst]
    generalize gv st = x
    cases q with
    | zero =>
      have hqd : decide (((0 : Nat) : Int) - 1 ≥ 0) = false := rfl
      simp -dsimp -implicitDefEqProofs only [go_sem, C_P, C_deep, reduceCtorEq, Nat.reduceAdd, Nat.reduceLeDiff, Nat.reduceLT, Nat.reduceEqDiff, Nat.reduceMul, Nat.reduceSub, Nat.reducePow, Int.reduceToNat, Int.reduceLE, Int.reduceLT, Int.reduceEq, hqd]
      exact ⟨cells, hT, rfl⟩
    | succ q =>
      have hqz : (((q + 1 : Nat) : Int) - 1) = (q : Int) := by omega
      have hqd : decide ((q : Int) ≥ 0) = true := by simp
      have hL2 : (q + 1 + 1) * wid set n ≤ (set.length + 1) * wid set n := Nat.mul_le_mul_right _ (by omega)
      have hL1 : (q + 1) * wid set n ≤ (set.length + 1) * wid set n := Nat.mul_le_mul_right _ (by omega)
      simp -dsimp -implicitDefEqProofs only [go_sem, C_P, C_deep, reduceCtorEq, Nat.reduceAdd, Nat.reduceLeDiff, Nat.reduceLT, Nat.reduceEqDiff, Nat.reduceMul, Nat.reduceSub, Nat.reducePow, Int.reduceToNat, Int.reduceLE, Int.reduceLT, Int.reduceEq, hqz, hqd, wrap_succ (show q < 9223372036854775807 by omega), row74 (F := TabF H sv set n cells) (i := q + 1) TabF_0 ⟨wid_pos, by omega⟩ (by omega) hL2,
        row74 (F := TabF H sv set n cells) (i := q) TabF_0 ⟨wid_pos, by omega⟩ (by omega) hL1]
      refine WL_for (wid set n) (I84i set sv n H q) ⟨cells, hT, rfl⟩ ?_ ?_
      · clear hT hst st cells
        rintro m st hm ⟨cells, hT, hst⟩
        rw [hst]
        generalize gv st = x
        have hmd : decide ((m : Int) < (wid set n : Int)) = true := by simp; omega
        obtain ⟨ad, hia, hld⟩ := hr.get (show q < set.length by omega)
        have hx := hsm.getD q
        have hxp := hsm (set.getD q 0) (by rw [List.getD_eq_getElem?_getD, List.getElem?_eq_getElem (show q < set.length by omega)]; exact List.getElem_mem _)
        have hdr : set.drop q = set.getD q 0 :: set.drop (q + 1) := by rw [List.drop_eq_getElem_cons (show q < set.length by omega), List.getD_eq_getElem?_getD, List.getElem?_eq_getElem (show q < set.length by omega)]; rfl
        have hrow : ∀ c, c < wid set n → cells[(q + 1) * wid set n + c]? = some (.int .i32 ((fN (set.drop (q + 1)) (c : Int) : Nat) : Int)) := by
          intro c hc; rw [hT.2 (q + 1) c (by omega) hc, if_pos (.inl (Nat.le_refl _))]
        have hp1 := hrow m hm
        have hlim1 : (q + 1) * wid set n + m + 1 ≤ cells.length := by rw [hT.1]; exact pos_lt (by omega) hm
        have hlim0 : q * wid set n + m + 1 ≤ cells.length := by rw [hT.1]; exact pos_lt (by omega) hm
        have hput : ∀ v : Nat, v = fN (set.drop q) (m : Int) → TabP set (wid set n) (q + 1) (m + 1) (cells.take (q * wid set n + m) ++ .int .i32 (v : Int) :: cells.drop (q * wid set n + m + 1)) :=
          fun v hv => hT.put (by omega) hq hm hv
        simp -dsimp -implicitDefEqProofs only [go_sem, C_P, C_deep, reduceCtorEq, Nat.reduceAdd, Nat.reduceLeDiff, Nat.reduceLT, Nat.reduceEqDiff, Nat.reduceMul, Nat.reduceSub, Nat.reducePow, Int.reduceToNat, Int.reduceLE, Int.reduceLT, Int.reduceEq, hmd, hia, hld]
        refine Br_intro (fun h1 => ?_) (fun h1 => ?_)
        · have h1' : set.getD q 0 ≤ (m : Int) := of_decide_eq_true h1
          obtain ⟨y, hy⟩ : ∃ y : Nat, (m : Int) - set.getD q 0 = (y : Int) := ⟨((m : Int) - set.getD q 0).toNat, by omega⟩
          have hym : y < wid set n := by omega
          have hsub : IntKind.i64.wrap ((m : Int) - set.getD q 0) = (y : Int) := by rw [wrap64 (by omega), hy]
          have hp2 := hrow y hym
          have hlim2 : (q + 1) * wid set n + y + 1 ≤ cells.length := by rw [hT.1]; exact pos_lt (by omega) hym
          have hv := hput _ (show min (min (fN (set.drop (q + 1)) (m : Int)) (fN (set.drop (q + 1)) (y : Int) + 1)) 258 = fN (set.drop q) (m : Int) by rw [hdr, fN, if_pos h1', hy])
          simp -dsimp -implicitDefEqProofs only [go_sem, C_P, C_deep, reduceCtorEq, Nat.reduceAdd, Nat.reduceLeDiff, Nat.reduceLT, Nat.reduceEqDiff, Nat.reduceMul, Nat.reduceSub, Nat.reducePow, Int.reduceToNat, Int.reduceLE, Int.reduceLT, Int.reduceEq, hia, hld, hsub, hym, hm, show (0 : Int) ≤ (y : Int) from by omega, show (0 : Int) ≤ (m : Int) from by omega, Nat.mul_one, TabF_set, storeC, TabF_2, hp1, hp2, hlim1, hlim2, hlim0, wrap_succ (show m < 9223372036854775807 by omega), WCh_pure (join85 (a := fN (set.drop (q + 1)) (m : Int)) (fN_258 (set.drop (q + 1)) (y : Int)))]
          exact ⟨_, hv, rfl⟩
        · have h1' : ¬ set.getD q 0 ≤ (m : Int) := of_decide_eq_false h1
          have hv := hput _ (show min (min (fN (set.drop (q + 1)) (m : Int)) (258 + 1)) 258 = fN (set.drop q) (m : Int) by rw [hdr, fN, if_neg h1'])
          have hj : Pure C 85 [.int .i32 ((fN (set.drop (q + 1)) (m : Int) : Nat) : Int), .int .i32 258] (.int .i32 ((min (min (fN (set.drop (q + 1)) (m : Int)) (258 + 1)) 258 : Nat) : Int)) := join85 (a := fN (set.drop (q + 1)) (m : Int)) (b := 258) (Nat.le_refl _)
          simp -dsimp -implicitDefEqProofs only [go_sem, C_P, C_deep, reduceCtorEq, Nat.reduceAdd, Nat.reduceLeDiff, Nat.reduceLT, Nat.reduceEqDiff, Nat.reduceMul, Nat.reduceSub, Nat.reducePow, Int.reduceToNat, Int.reduceLE, Int.reduceLT, Int.reduceEq, hm, show (0 : Int) ≤ (m : Int) from by omega, Nat.mul_one, TabF_set, storeC, TabF_2, hp1, hlim1, hlim0, wrap_succ (show m < 9223372036854775807 by omega), WCh_pure hj]
          exact ⟨_, hv, rfl⟩
      · clear hT hst st cells
        rintro st ⟨cells, hT, hst⟩
        rw [hst]
        generalize gv st = x
        have hmd : decide ((wid set n : Int) < (wid set n : Int)) = false := by simp
        have hsub : IntKind.i64.wrap ((q : Int) - 1) = (q : Int) - 1 := wrap64 (by omega)
        simp -dsimp -implicitDefEqProofs only [go_sem, C_P, C_deep, reduceCtorEq, Nat.reduceAdd, Nat.reduceLeDiff, Nat.reduceLT, Nat.reduceEqDiff, Nat.reduceMul, Nat.reduceSub, Nat.reducePow, Int.reduceToNat, Int.reduceLE, Int.reduceLT, Int.reduceEq, hmd, hsub]
        exact ⟨q, by omega, by omega, cells, hT.row (Nat.le_refl _) (by omega), rfl⟩

set_option maxRecDepth 100000 in
theorem fewest73 {H : Heap} {sv : PV} {set : List Int} {n : Nat} (hr : RV H sv set) (hcv : cellsOf sv = [sv] ∧ isTup sv = false) (hsm : Small set) (hlen : set.length ≤ 256) (hn : n ≤ 100000) {K t}
    (hK : ∀ cells, TabP set (wid set n) 0 0 cells → K (.ref H.length 0 0 0 3) (TabF H sv set n cells :: H) []) : WCh C 73 [sv, .int .i64 (n : Int)] ([] :: H) K t := by
  suffices h : WC C 73 [sv, .int .i64 (n : Int)] ([] :: H) fun v H' d => v = .ref H.length 0 0 0 3 ∧ d = [] ∧ ∃ cells, TabP set (wid set n) 0 0 cells ∧ H' = TabF H sv set n cells :: H from
    WCh_of h fun v H' d ⟨h1, h2, cells, h3, h4⟩ => by rw [h1, h2, h4]; exact hK cells h3
  refine WC_inl (fn := Tryd.f73) Tryd.func73 rfl rfl rfl rfl (List.cons_ne_nil _ _) ?_; simp only [Tryd.f73, List.replicate, List.length_cons, List.length_nil, Nat.reduceSub, Nat.reduceAdd, List.cons_append, List.nil_append]
  simp -dsimp -implicitDefEqProofs only [go_sem, C_P, C_deep, reduceCtorEq, Nat.reduceAdd, Nat.reduceLeDiff, Nat.reduceLT, Nat.reduceEqDiff, Nat.reduceMul, Nat.reduceSub, Nat.reducePow, Int.reduceToNat, Int.reduceLE, Int.reduceLT, Int.reduceEq]
  refine WCh_of (filled84 hr hcv hsm hlen hn) ?_
  rintro _ _ _ ⟨rfl, rfl, cells, hT, rfl⟩
  simp -dsimp -implicitDefEqProofs only [go_sem, C_P, C_deep, reduceCtorEq, Nat.reduceAdd, Nat.reduceLeDiff, Nat.reduceLT, Nat.reduceEqDiff, Nat.reduceMul, Nat.reduceSub, Nat.reducePow, Int.reduceToNat, Int.reduceLE, Int.reduceLT, Int.reduceEq]
  exact ⟨cells, hT, rfl⟩
theorem TabF_0a {H sv set n cells} {g : List AObj} : (TabF H sv set n cells ++ g)[0]? = some ⟨[sv, .int .i64 (wid set n : Int), .sl H.length 2 0 0 ((set.length + 1) * wid set n) 1 true], 0, 0⟩ := rfl
theorem TabF_2a {H sv set n cells} {g : List AObj} : (TabF H sv set n cells ++ g)[2]? = some ⟨cells, 0, 0⟩ := rfl
def bestR (set : List Int) (n : Int) : PV := match fewest set n with
  | some s => .tup [mkS (nats s), .bool true]
  | none => .tup [.nils, .bool false]
def I60 (set : List Int) (sv : PV) (n : Nat) (H : Heap) (cells : List PV) (i : Nat) (st : St) : Prop := ∃ (g : List AObj) (av : PV) (out : List Nat) (m : Nat),
  Acc 1 H.length 3 g av (nats out) ∧ m < wid set n ∧ out ++ fG (set.drop i) i (m : Int) = fG set 0 (n : Int) ∧ out.length ≤ i ∧
    st = ⟨[sv, .int .i64 (m : Int), gv st 2, gv st 3, .nils, .bool false, .ref H.length 0 0 0 3, av, gv st 8, gv st 9, gv st 10, gv st 11, gv st 12, gv st 13, gv st 14, gv st 15, gv st 16, gv st 17, gv st 18, gv st 19, gv st 20, gv st 21, gv st 22, gv st 23, gv st 24, gv st 25, gv st 26, sv, .int .i64 set.length, .int .i64 (i : Int), gv st 30, gv st 31, gv st 32, gv st 33, gv st 34, gv st 35, gv st 36, gv st 37, gv st 38, gv st 39, gv st 40, gv st 41, gv st 42, gv st 43, gv st 44, gv st 45, gv st 46, gv st 47, gv st 48, gv st 49, gv st 50, gv st 51, gv st 52, gv st 53, gv st 54, gv st 55, gv st 56, gv st 57, gv st 58, gv st 59, gv st 60, gv st 61, gv st 62, gv st 63, gv st 64], (TabF H sv set n cells ++ g) :: H, []⟩
set_option maxHeartbeats 2000000 in
set_option maxRecDepth 100000 in
theorem best60 {H : Heap} {sv : PV} {set : List Int} {n : Nat} (hr : RV H sv set) (hcv : cellsOf sv = [sv] ∧ isTup sv = false) (hsm : Small set) (hlen : set.length ≤ 256) (hn : n ≤ 100000) {K t} :
    WCh C 60 [sv, .int .i64 (n : Int)] H K t = K (bestR set (n : Int)) H [] := by
  refine WCh_keep ?_
  have hss := sum_small hsm
  refine WC_own (fn := Tryd.f60) Tryd.func60 rfl rfl rfl (Or.inl rfl) ?_; simp only [Tryd.f60, List.replicate, List.length_cons, List.length_nil, Nat.reduceSub, Nat.reduceAdd, List.cons_append, List.nil_append]
  have hdr := dr_60; simp only [drwF, Tryd.f60, drw, cond_true, cond_false, List.append_nil, List.nil_append, List.cons_append, List.map_cons, List.map_nil, List.cons.injEq, and_true] at hdr
  simp -dsimp -implicitDefEqProofs only [go_sem, C_P, C_deep, reduceCtorEq, Nat.reduceAdd, Nat.reduceLeDiff, Nat.reduceLT, Nat.reduceEqDiff, Nat.reduceMul, Nat.reduceSub, Nat.reducePow, Int.reduceToNat, Int.reduceLE, Int.reduceLT, Int.reduceEq]
  refine fewest73 hr hcv hsm hlen hn ?_
  intro cells hT
  have hwid : wid set n ≤ 100001 := by unfold wid; omega
  have hrow : ∀ r c, r ≤ set.length → c < wid set n → cells[r * wid set n + c]? = some (.int .i32 ((fN (set.drop r) (c : Int) : Nat) : Int)) := by
    intro r c hrl hc; rw [hT.2 r c hrl hc, if_pos (.inl (Nat.zero_le _))]
  have hcl := hT.1
  simp -dsimp -implicitDefEqProofs only [go_sem, C_P, C_deep, reduceCtorEq, Nat.reduceAdd, Nat.reduceLeDiff, Nat.reduceLT, Nat.reduceEqDiff, Nat.reduceMul, Nat.reduceSub, Nat.reducePow, Int.reduceToNat, Int.reduceLE, Int.reduceLT, Int.reduceEq, TabF_0]
  refine Br_intro (fun h => ?_) (fun h => ?_)
  · have h' : (wid set n : Int) ≤ (n : Int) := of_decide_eq_true h
    have hf : fN set (n : Int) = 258 := fN_big hsm.pos (by unfold wid at h'; omega)
    have hb : bestR set (n : Int) = .tup [.nils, .bool false] := by unfold bestR fewest; rw [if_neg (by omega)]
    simp -dsimp -implicitDefEqProofs only [go_sem, C_P, C_deep, reduceCtorEq, Nat.reduceAdd, Nat.reduceLeDiff, Nat.reduceLT, Nat.reduceEqDiff, Nat.reduceMul, Nat.reduceSub, Nat.reducePow, Int.reduceToNat, Int.reduceLE, Int.reduceLT, Int.reduceEq, h, hb]
  · have h' : n < wid set n := by have := of_decide_eq_false h; omega
    have hr0 := hrow 0 n (Nat.zero_le _) h'
    rw [Nat.zero_mul, Nat.zero_add, List.drop_zero] at hr0
    have hlim0 : n + 1 ≤ cells.length := by rw [hcl]; have := pos_lt (W := wid set n) (r := 0) (n := set.length) (Nat.zero_le _) h'; omega
    have hz : (0 + 1) * wid set n ≤ (set.length + 1) * wid set n := Nat.mul_le_mul_right _ (by omega)
    have hz74 := fun (K : PV → Heap → Wr → Prop) (t : Hold K) => row74 (H := H) (F := TabF H sv set n cells) (i := 0) TabF_0 ⟨wid_pos, by omega⟩ (by omega) hz (K := K) (t := t)
    rw [Nat.zero_mul] at hz74
    have hz74' : ∀ (K : PV → Heap → Wr → Prop) (t : Hold K), WCh C 74 [.ref H.length 0 0 0 3, .int .i64 0] (TabF H sv set n cells :: H) K t = K (.sl H.length 2 0 0 (wid set n) 1 true) (TabF H sv set n cells :: H) [] := hz74
    simp -dsimp -implicitDefEqProofs only [go_sem, C_P, C_deep, reduceCtorEq, Nat.reduceAdd, Nat.reduceLeDiff, Nat.reduceLT, Nat.reduceEqDiff, Nat.reduceMul, Nat.reduceSub, Nat.reducePow, Int.reduceToNat, Int.reduceLE, Int.reduceLT, Int.reduceEq, h, hz74', h', show (0 : Int) ≤ (n : Int) from by omega, TabF_2, hr0, hlim0, Nat.zero_add, Nat.mul_one]
    refine Br_intro (fun h1 => ?_) (fun h1 => ?_)
    · have hf : ¬ fN set (n : Int) < 258 := by have := of_decide_eq_true h1; omega
      have hb : bestR set (n : Int) = .tup [.nils, .bool false] := by unfold bestR fewest; rw [if_neg hf]
      simp -dsimp -implicitDefEqProofs only [go_sem, C_P, C_deep, reduceCtorEq, Nat.reduceAdd, Nat.reduceLeDiff, Nat.reduceLT, Nat.reduceEqDiff, Nat.reduceMul, Nat.reduceSub, Nat.reducePow, Int.reduceToNat, Int.reduceLE, Int.reduceLT, Int.reduceEq, hb]
    · have hf : fN set (n : Int) < 258 := by have := of_decide_eq_false h1; omega
      have hb : bestR set (n : Int) = .tup [mkS (nats (fG set 0 (n : Int))), .bool true] := by unfold bestR fewest; rw [if_pos hf]
      rw [hb]
      simp -dsimp -implicitDefEqProofs only [go_sem, C_P, C_deep, reduceCtorEq, Nat.reduceAdd, Nat.reduceLeDiff, Nat.reduceLT, Nat.reduceEqDiff, Nat.reduceMul, Nat.reduceSub, Nat.reducePow, Int.reduceToNat, Int.reduceLE, Int.reduceLT, Int.reduceEq, hr.1]
      refine WL_for set.length (I60 set sv n H cells) ⟨[], .nils, [], n, Acc_nil, h', rfl, Nat.le_refl _, rfl⟩ ?_ ?_
      · rintro i st hi ⟨g, av, out, m, hA, hm, hG, hol, hst⟩
        rw [hst]
        generalize gv st = x
        have hd : decide ((i : Int) < set.length) = true := by simp; omega
        obtain ⟨ad, hia, hld⟩ := hr.get hi
        have hL2 : (i + 1 + 1) * wid set n ≤ (set.length + 1) * wid set n := Nat.mul_le_mul_right _ (by omega)
        have hL1 : (i + 1) * wid set n ≤ (set.length + 1) * wid set n := Nat.mul_le_mul_right _ (by omega)
        have hxp := hsm (set.getD i 0) (by rw [List.getD_eq_getElem?_getD, List.getElem?_eq_getElem hi]; exact List.getElem_mem _)
        have hdrop : set.drop i = set.getD i 0 :: set.drop (i + 1) := by rw [List.drop_eq_getElem_cons hi, List.getD_eq_getElem?_getD, List.getElem?_eq_getElem hi]; rfl
        rw [hdrop, fG, ← hdrop] at hG
        simp -dsimp -implicitDefEqProofs only [go_sem, C_P, C_deep, reduceCtorEq, Nat.reduceAdd, Nat.reduceLeDiff, Nat.reduceLT, Nat.reduceEqDiff, Nat.reduceMul, Nat.reduceSub, Nat.reducePow, Int.reduceToNat, Int.reduceLE, Int.reduceLT, Int.reduceEq, hd, hia, hld, ↓W_drawnL hdr]
        refine Br_intro (fun h2 => ?_) (fun h2 => ?_)
        · have h2' : set.getD i 0 ≤ (m : Int) := of_decide_eq_true h2
          obtain ⟨y, hy⟩ : ∃ y : Nat, (m : Int) - set.getD i 0 = (y : Int) := ⟨((m : Int) - set.getD i 0).toNat, by omega⟩
          have hym : y < wid set n := by omega
          have hsub : IntKind.i64.wrap ((m : Int) - set.getD i 0) = (y : Int) := by rw [wrap64 (by omega), hy]
          have hp1 := hrow i m (by omega) hm
          have hp2 := hrow (i + 1) y (by omega) hym
          have hlim1 : i * wid set n + m + 1 ≤ cells.length := by rw [hcl]; exact pos_lt (by omega) hm
          have hlim2 : (i + 1) * wid set n + y + 1 ≤ cells.length := by rw [hcl]; exact pos_lt (by omega) hym
          simp -dsimp -implicitDefEqProofs only [go_sem, C_P, C_deep, reduceCtorEq, Nat.reduceAdd, Nat.reduceLeDiff, Nat.reduceLT, Nat.reduceEqDiff, Nat.reduceMul, Nat.reduceSub, Nat.reducePow, Int.reduceToNat, Int.reduceLE, Int.reduceLT, Int.reduceEq, h2, wrap_succ (show i < 9223372036854775807 by omega), row74 (F := TabF H sv set n cells ++ g) (i := i + 1) TabF_0a ⟨wid_pos, by omega⟩ (by omega) hL2,
            row74 (F := TabF H sv set n cells ++ g) (i := i) TabF_0a ⟨wid_pos, by omega⟩ (by omega) hL1, hsub, hym, hm, hp1, hp2, hlim1, hlim2, TabF_2a, Nat.mul_one, show (0 : Int) ≤ (y : Int) from by omega, show (0 : Int) ≤ (m : Int) from by omega]
          have hf2 := fN_258 (set.drop (i + 1)) (y : Int)
          have hw32 : IntKind.i32.wrap ((fN (set.drop (i + 1)) (y : Int) : Int) + 1) = ((fN (set.drop (i + 1)) (y : Int) + 1 : Nat) : Int) := by rw [wrap32 (by omega)]; omega
          rw [hw32]
          rw [hy] at hG
          refine Br_intro (fun h3 => ?_) (fun h3 => ?_)
          · have h3' : fN (set.drop (i + 1)) (y : Int) + 1 = fN (set.drop i) (m : Int) := by have := eq_of_beq h3; omega
            rw [if_pos ⟨h2', h3'⟩] at hG
            simp -dsimp -implicitDefEqProofs only [go_sem, C_P, C_deep, reduceCtorEq, Nat.reduceAdd, Nat.reduceLeDiff, Nat.reduceLT, Nat.reduceEqDiff, Nat.reduceMul, Nat.reduceSub, Nat.reducePow, Int.reduceToNat, Int.reduceLE, Int.reduceLT, Int.reduceEq]
            refine WXh_acc sl_31 hA rfl (TabF H sv set n cells) [_] rfl 0 (by simp [TabF]) rfl rfl (by decide) (room_ok (m := 512) (by decide) (by rw [nats_len]; omega) (by decide)) ?_
            rw [nats_snoc]
            intro av' g' wr hA' hwr
            simp -dsimp -implicitDefEqProofs only [go_sem, C_P, C_deep, reduceCtorEq, Nat.reduceAdd, Nat.reduceLeDiff, Nat.reduceLT, Nat.reduceEqDiff, Nat.reduceMul, Nat.reduceSub, Nat.reducePow, Int.reduceToNat, Int.reduceLE, Int.reduceLT, Int.reduceEq, addWs_own hwr, hsub, wrap_succ (show i < 9223372036854775807 by omega), hA'.cells, hA'.tup]
            exact ⟨g', av', out ++ [i], y, hA', hym, by rw [List.append_assoc]; exact hG, by simp; omega, rfl⟩
          · rw [if_neg (fun h4 => by have := h4.2; rw [← this] at h3; simp at h3)] at hG
            simp -dsimp -implicitDefEqProofs only [go_sem, C_P, C_deep, reduceCtorEq, Nat.reduceAdd, Nat.reduceLeDiff, Nat.reduceLT, Nat.reduceEqDiff, Nat.reduceMul, Nat.reduceSub, Nat.reducePow, Int.reduceToNat, Int.reduceLE, Int.reduceLT, Int.reduceEq, wrap_succ (show i < 9223372036854775807 by omega)]
            exact ⟨g, av, out, m, hA, hm, hG, by omega, rfl⟩
        · have h2' : ¬ set.getD i 0 ≤ (m : Int) := of_decide_eq_false h2
          rw [if_neg (fun h3 => h2' h3.1)] at hG
          simp -dsimp -implicitDefEqProofs only [go_sem, C_P, C_deep, reduceCtorEq, Nat.reduceAdd, Nat.reduceLeDiff, Nat.reduceLT, Nat.reduceEqDiff, Nat.reduceMul, Nat.reduceSub, Nat.reducePow, Int.reduceToNat, Int.reduceLE, Int.reduceLT, Int.reduceEq, h2, wrap_succ (show i < 9223372036854775807 by omega)]
          exact ⟨g, av, out, m, hA, hm, hG, by omega, rfl⟩
      · rintro st ⟨g, av, out, m, hA, hm, hG, hol, hst⟩
        rw [hst]
        generalize gv st = x
        rw [List.drop_length, fG, List.append_nil] at hG
        subst hG
        have hr : reify ((TabF H sv set n cells ++ g) :: H) H.length 5 av = some (mkS (nats (fG set 0 (n : Int)))) := reify_Acc hA rfl (p := TabF H sv set n cells) rfl (n := 3) (by decide) (nats_scal _)
        have hd : decide ((set.length : Int) < set.length) = false := by simp
        simp -dsimp -implicitDefEqProofs only [go_sem, C_P, C_deep, reduceCtorEq, Nat.reduceAdd, Nat.reduceLeDiff, Nat.reduceLT, Nat.reduceEqDiff, Nat.reduceMul, Nat.reduceSub, Nat.reducePow, Int.reduceToNat, Int.reduceLE, Int.reduceLT, Int.reduceEq, hd, hr]
def giveE (set : List Int) (n : Int) : Int := if chkSet set ≠ 0 then chkSet set else if inR_ n 1 100000 = false then 2 else 0
set_option maxRecDepth 100000 in
theorem given59 {H : Heap} {sv : PV} {set : List Int} {n : Int} (hr : RV H sv set) {K t} : WCh C 59 [sv, .int .i64 n] H K t = K (.int .i64 (giveE set n)) H [] := by
  refine WCh_keep ?_
  have hr1 := hr.up []
  refine WC_own (fn := Tryd.f59) Tryd.func59 rfl rfl rfl (Or.inl rfl) ?_; simp only [Tryd.f59, List.replicate, List.length_cons, List.length_nil, Nat.reduceSub, Nat.reduceAdd, List.cons_append, List.nil_append]
  simp -dsimp -implicitDefEqProofs only [go_sem, C_P, C_deep, reduceCtorEq, Nat.reduceAdd, Nat.reduceLeDiff, Nat.reduceLT, Nat.reduceEqDiff, Nat.reduceMul, Nat.reduceSub, Nat.reducePow, Int.reduceToNat, Int.reduceLE, Int.reduceLT, Int.reduceEq, chk52h hr1]
  unfold giveE
  refine Br_intro (fun h => ?_) (fun h => ?_)
  · simp -dsimp -implicitDefEqProofs only [go_sem, C_P, C_deep, reduceCtorEq, Nat.reduceAdd, Nat.reduceLeDiff, Nat.reduceLT, Nat.reduceEqDiff, Nat.reduceMul, Nat.reduceSub, Nat.reducePow, Int.reduceToNat, Int.reduceLE, Int.reduceLT, Int.reduceEq]
    rw [if_pos (by simpa using h)]
  · rw [if_neg (by simpa using h)]
    simp -dsimp -implicitDefEqProofs only [go_sem, C_P, C_deep, reduceCtorEq, Nat.reduceAdd, Nat.reduceLeDiff, Nat.reduceLT, Nat.reduceEqDiff, Nat.reduceMul, Nat.reduceSub, Nat.reducePow, Int.reduceToNat, Int.reduceLE, Int.reduceLT, Int.reduceEq, WCh_pure (ins68 _)]
    refine Br_intro (fun h => ?_) (fun h => ?_)
    · simp -dsimp -implicitDefEqProofs only [go_sem, C_P, C_deep, reduceCtorEq, Nat.reduceAdd, Nat.reduceLeDiff, Nat.reduceLT, Nat.reduceEqDiff, Nat.reduceMul, Nat.reduceSub, Nat.reducePow, Int.reduceToNat, Int.reduceLE, Int.reduceLT, Int.reduceEq]
      rw [if_pos (by simpa using h)]
    · simp -dsimp -implicitDefEqProofs only [go_sem, C_P, C_deep, reduceCtorEq, Nat.reduceAdd, Nat.reduceLeDiff, Nat.reduceLT, Nat.reduceEqDiff, Nat.reduceMul, Nat.reduceSub, Nat.reducePow, Int.reduceToNat, Int.reduceLE, Int.reduceLT, Int.reduceEq]
      rw [if_neg (by simpa using h)]
theorem chkSet_len {l : List Int} (h : chkSet l = 0) : l.length ≤ 256 := by
  unfold chkSet at h
  split at h
  · omega
  · omega
set_option maxRecDepth 100000 in
theorem Fewest36 {H : Heap} {sv : PV} {set : List Int} {n : Int} (hr : RV H sv set) (hcv : cellsOf sv = [sv] ∧ isTup sv = false) {K t} : WCh C 36 [sv, .int .i64 n] H K t = K (fewRes set n) H [] := by
  refine WCh_keep ?_
  have hr1 := hr.up []
  refine WC_own (fn := Tryd.f36) Tryd.func36 rfl rfl rfl (Or.inl rfl) ?_; simp only [Tryd.f36, List.replicate, List.length_cons, List.length_nil, Nat.reduceSub, Nat.reduceAdd, List.cons_append, List.nil_append]
  simp -dsimp -implicitDefEqProofs only [go_sem, C_P, C_deep, reduceCtorEq, Nat.reduceAdd, Nat.reduceLeDiff, Nat.reduceLT, Nat.reduceEqDiff, Nat.reduceMul, Nat.reduceSub, Nat.reducePow, Int.reduceToNat, Int.reduceLE, Int.reduceLT, Int.reduceEq, given59 hr1]
  unfold fewRes
  refine Br_intro (fun h => ?_) (fun h => ?_)
  · have h' : giveE set n ≠ 0 := by simpa using h
    simp -dsimp -implicitDefEqProofs only [go_sem, C_P, C_deep, reduceCtorEq, Nat.reduceAdd, Nat.reduceLeDiff, Nat.reduceLT, Nat.reduceEqDiff, Nat.reduceMul, Nat.reduceSub, Nat.reducePow, Int.reduceToNat, Int.reduceLE, Int.reduceLT, Int.reduceEq]
    unfold giveE at h' ⊢
    split
    · rfl
    · rename_i h1
      rw [if_neg h1] at h'
      split
      · rfl
      · rename_i h2; rw [if_neg h2] at h'; exact absurd rfl h'
  · have h' : giveE set n = 0 := by simpa using h
    unfold giveE at h'
    have hc : chkSet set = 0 := by
      by_cases hc : chkSet set = 0
      · exact hc
      · rw [if_pos hc] at h'; exact absurd h' hc
    rw [if_neg (by simp [hc])] at h' ⊢
    have h1 : ¬ inR_ n 1 100000 = false := by
      intro h1; rw [if_pos h1] at h'; simp at h'
    rw [if_neg h1]
    have h2 : inR_ n 1 100000 = true := by simpa using h1
    obtain ⟨m, rfl⟩ : ∃ m : Nat, n = (m : Int) := ⟨n.toNat, by have := inR_true.1 h2; omega⟩
    have hm := inR_true.1 h2
    simp -dsimp -implicitDefEqProofs only [go_sem, C_P, C_deep, reduceCtorEq, Nat.reduceAdd, Nat.reduceLeDiff, Nat.reduceLT, Nat.reduceEqDiff, Nat.reduceMul, Nat.reduceSub, Nat.reducePow, Int.reduceToNat, Int.reduceLE, Int.reduceLT, Int.reduceEq, best60 hr1 hcv (chkSet_small hc) (chkSet_len hc) (show m ≤ 100000 by omega), bestR]
    cases hf : fewest set (m : Int) with
    | none => simp -dsimp -implicitDefEqProofs only [go_sem, C_P, C_deep, reduceCtorEq, Nat.reduceAdd, Nat.reduceLeDiff, Nat.reduceLT, Nat.reduceEqDiff, Nat.reduceMul, Nat.reduceSub, Nat.reducePow, Int.reduceToNat, Int.reduceLE, Int.reduceLT, Int.reduceEq]
    | some s => simp -dsimp -implicitDefEqProofs only [go_sem, C_P, C_deep, reduceCtorEq, Nat.reduceAdd, Nat.reduceLeDiff, Nat.reduceLT, Nat.reduceEqDiff, Nat.reduceMul, Nat.reduceSub, Nat.reducePow, Int.reduceToNat, Int.reduceLE, Int.reduceLT, Int.reduceEq, mkS_reify (k := 3) (nats_scal s), (mkS_SV (nats s)).cells, (mkS_SV (nats s)).tup]

def fewE (set : List Int) (n : Int) : Int := if chkSet set ≠ 0 then chkSet set else if inR_ n 1 100000 = false then 2 else if fN set n < 258 then 0 else 6
def fewL (set : List Int) (n : Int) : List Nat := if fewE set n = 0 then fG set 0 n else []
theorem fewRes_eq (set : List Int) (n : Int) : fewRes set n = .tup [mkS (nats (fewL set n)), .int .i64 (fewE set n)] := by
  unfold fewRes fewL fewE fewest
  by_cases h1 : chkSet set ≠ 0
  · rw [if_pos h1, if_pos h1, if_neg h1]; rfl
  · rw [if_neg h1, if_neg h1]
    by_cases h2 : inR_ n 1 100000 = false
    · rw [if_pos h2, if_pos h2, if_neg (by decide)]; rfl
    · rw [if_neg h2, if_neg h2]
      by_cases h3 : fN set n < 258
      · rw [if_pos h3, if_pos h3, if_pos rfl]
      · rw [if_neg h3, if_neg h3, if_neg (by decide)]; rfl
theorem fG_mem : ∀ {a : List Int} {off : Nat} {n : Int} {k}, k ∈ fG a off n → off ≤ k ∧ k < off + a.length
  | [], off, n, k, h => by simp [fG] at h
  | x :: a, off, n, k, h => by
    rw [fG] at h
    simp only [List.length_cons]
    split at h
    · rcases List.mem_cons.1 h with rfl | h
      · omega
      · have := fG_mem h; omega
    · have := fG_mem h; omega
theorem fG_sorted : ∀ {a : List Int} {off : Nat} {n : Int}, (fG a off n).Pairwise (· < ·)
  | [], off, n => by rw [fG]; exact .nil
  | x :: a, off, n => by
    rw [fG]
    split
    · exact List.pairwise_cons.2 ⟨fun k hk => by have := fG_mem hk; omega, fG_sorted⟩
    · exact fG_sorted
theorem fewL_mem {set : List Int} {n : Int} {k} (h : k ∈ fewL set n) : k < set.length := by
  unfold fewL at h
  split at h
  · have := fG_mem h; omega
  · simp at h
theorem fG_len {a : List Int} {off : Nat} {n : Int} : (fG a off n).length ≤ a.length := by
  induction a generalizing off n with
  | nil => simp [fG]
  | cons x a ih =>
    rw [fG]
    split
    · simp only [List.length_cons]; have := ih (off := off + 1) (n := n - x); omega
    · simp only [List.length_cons]; have := ih (off := off + 1) (n := n); omega
theorem fewL_len {set : List Int} {n : Int} : (fewL set n).length ≤ set.length := by
  unfold fewL; split
  · exact fG_len
  · simp
/-- Blocks changed at places, one after the other. -/
def setIdx (g : Blk → Blk) (l : List Blk) (idx : List Nat) : List Blk := idx.foldl (fun l i => match l[i]? with
  | some b => l.set i (g b)
  | none => l) l
theorem setIdx_snoc {g : Blk → Blk} {l : List Blk} {idx : List Nat} {n : Nat} {b : Blk} (h : (setIdx g l idx)[n]? = some b) : setIdx g l (idx ++ [n]) = (setIdx g l idx).set n (g b) := by
  unfold setIdx at h ⊢
  rw [List.foldl_append, List.foldl_cons, List.foldl_nil, h]
theorem setIdx_len (g : Blk → Blk) : ∀ (idx : List Nat) (l : List Blk), (setIdx g l idx).length = l.length
  | [], l => rfl
  | i :: idx, l => by
    have : setIdx g l (i :: idx) = setIdx g (match l[i]? with | some b => l.set i (g b) | none => l) idx := rfl
    rw [this, setIdx_len g idx]
    split <;> simp
def withW (who : ByteArray) (b : Blk) : Blk := { b with who := who }
def frees (most : Int) (l : List Blk) : List Nat := whr (freeP most) l l.length
def lenAt (l : List Blk) (i : Nat) : Int := match l[i]? with
  | some b => b.len
  | none => 0
def freeS (most : Int) (l : List Blk) : List Int := (frees most l).map (lenAt l)
def takeE (most : Int) (l : List Blk) (who : ByteArray) (n : Int) : Int :=
  if namedE most l who ≠ 0 then namedE most l who else if (whr (heldP who) l l.length).length ≠ 0 then 7 else fewE (freeS most l) n
def takeO (most : Int) (l : List Blk) (n : Int) : List Nat := (fewL (freeS most l) n).map fun k => (frees most l).getD k 0
def takeL (most : Int) (l : List Blk) (who : ByteArray) (n : Int) : List Blk := setIdx (withW who) l (takeO most l n)
def takeRes (most : Int) (l : List Blk) (who : ByteArray) (n : Int) : PV :=
  if takeE most l who n ≠ 0 then .tup [.agg [.int .i64 0, .nils], .nils, .int .i64 (takeE most l who n)]
  else .tup [.agg [.int .i64 most, mkS (blks (takeL most l who n))], mkS (nats (takeO most l n)), .int .i64 0]
theorem frees_mem {most l i} (h : i ∈ frees most l) : i < l.length := (whr_mem h).1
theorem frees_len {most l} : (frees most l).length ≤ l.length := whr_len _ _ _
theorem freeS_len {most l} : (freeS most l).length = (frees most l).length := by unfold freeS; simp
theorem ints_snoc (a : List Int) (n : Int) : ints a ++ [[.int .i64 n]] = ints (a ++ [n]) := by simp [ints]
theorem lenAt_of {l : List Blk} {i : Nat} {b : Blk} (h : l[i]? = some b) : lenAt l i = b.len := by unfold lenAt; rw [h]
theorem set_self {α : Type} {l : List α} {i : Nat} {x : α} (h : l[i]? = some x) : l.set i x = l := by
  obtain ⟨hi, rfl⟩ := List.getElem?_eq_some_iff.1 h
  exact List.set_getElem_self hi
theorem fewE_nil {most : Int} (n : Int) : fewE (freeS most []) n ≠ 0 := by
  unfold fewE
  rw [show freeS most [] = [] from rfl, if_neg (by simp [chkSet, chkFrom])]
  split
  · decide
  · rename_i h
    have h2 : inR_ n 1 100000 = true := by simpa using h
    have := inR_true.1 h2
    have hf : fN [] n = 258 := by rw [fN, if_neg (by omega)]
    rw [hf]; decide
theorem takeRes_bad {most l who n} (h : takeE most l who n ≠ 0) : takeRes most l who n = .tup [.agg [.int .i64 0, .nils], .nils, .int .i64 (takeE most l who n)] := by unfold takeRes; rw [if_pos h]
theorem takeRes_ok {most l who n} (h : takeE most l who n = 0) : takeRes most l who n = .tup [.agg [.int .i64 most, mkS (blks (takeL most l who n))], mkS (nats (takeO most l n)), .int .i64 0] := by unfold takeRes; rw [if_neg (by simp [h])]
theorem CopF.put {D k : Nat} {F : List AObj} {q : Nat} {most : Int} {l l' : List Blk} {j : Nat} (hq : F[q]? = some ⟨[.int .i64 most, .sl D j 0 0 l.length 4 l.isEmpty], 0, 0⟩) (hkq : k ≤ q) (hkj : k ≤ j) (hjq : j ≠ q) (hjl : j < F.length) (hl : l'.length = l.length) :
    CopF D k (F.set j ⟨(blks l').flatten, 0, 0⟩) q most l' := by
  have he : l'.isEmpty = l.isEmpty := by cases l <;> cases l' <;> simp_all
  refine ⟨.sl D j 0 0 l.length 4 l.isEmpty, by rw [List.getElem?_set_ne hjq]; exact hq, hkq, .inr ⟨j, by rw [hl, he], hkj, hjq, by rw [List.getElem?_set_self hjl]⟩⟩
def I25a (l : List Blk) (most : Int) (sv : PV) (who : ByteArray) (n : Int) (H : Heap) (F : List AObj) (q : Nat) (i : Nat) (st : St) : Prop :=
  ∃ (g : List AObj) (av : PV), Acc 1 H.length F.length g av (ints (((frees most l).take i).map (lenAt l))) ∧
    st = ⟨[.agg [.int .i64 most, sv], .str who, .int .i64 n, .ref H.length 0 0 0 2, gv st 4, gv st 5, .ref H.length 1 0 0 2, .nils, .int .i64 0, .ref H.length q 0 0 2, .int .i64 0, mkS (nats (frees most l)), av, .nils, gv st 14, gv st 15, gv st 16, gv st 17, gv st 18, gv st 19, gv st 20, gv st 21, gv st 22, gv st 23, gv st 24, gv st 25, gv st 26, gv st 27, gv st 28, gv st 29, gv st 30, gv st 31, gv st 32, gv st 33, gv st 34, gv st 35, gv st 36, gv st 37, mkS (nats (frees most l)), .int .i64 (frees most l).length, .int .i64 i, gv st 41, gv st 42, gv st 43, gv st 44, gv st 45, gv st 46, gv st 47, gv st 48, gv st 49, gv st 50, gv st 51, gv st 52, gv st 53, gv st 54, gv st 55, gv st 56, gv st 57, gv st 58, gv st 59, gv st 60, gv st 61, gv st 62, gv st 63, gv st 64, gv st 65, gv st 66, gv st 67, gv st 68, gv st 69, gv st 70, gv st 71, gv st 72, gv st 73, gv st 74, gv st 75, gv st 76, gv st 77, gv st 78, gv st 79, gv st 80, gv st 81, gv st 82, gv st 83, gv st 84, gv st 85, gv st 86, gv st 87, gv st 88, gv st 89, gv st 90, gv st 91, gv st 92, gv st 93, gv st 94, gv st 95], (F ++ g) :: H, []⟩
def I25b (l : List Blk) (most : Int) (sv : PV) (who : ByteArray) (n : Int) (H : Heap) (q : Nat) (i : Nat) (st : St) : Prop :=
  ∃ (F g : List AObj) (av : PV) (a12 : PV), Acc 1 H.length F.length g av (nats ((takeO most l n).take i)) ∧ CopF H.length 2 F q most (setIdx (withW who) l ((takeO most l n).take i)) ∧ F[1]? = some ⟨[.int .i64 0, .nils], 0, 0⟩ ∧
    st = ⟨[.agg [.int .i64 most, sv], .str who, .int .i64 n, .ref H.length 0 0 0 2, gv st 4, gv st 5, .ref H.length 1 0 0 2, .nils, .int .i64 0, .ref H.length q 0 0 2, .int .i64 0, mkS (nats (frees most l)), a12, av, gv st 14, gv st 15, gv st 16, gv st 17, gv st 18, gv st 19, gv st 20, gv st 21, gv st 22, gv st 23, gv st 24, gv st 25, gv st 26, gv st 27, gv st 28, gv st 29, gv st 30, gv st 31, gv st 32, gv st 33, gv st 34, gv st 35, gv st 36, gv st 37, gv st 38, gv st 39, gv st 40, gv st 41, gv st 42, gv st 43, gv st 44, gv st 45, gv st 46, gv st 47, gv st 48, gv st 49, gv st 50, gv st 51, gv st 52, gv st 53, gv st 54, gv st 55, gv st 56, gv st 57, gv st 58, gv st 59, gv st 60, gv st 61, gv st 62, gv st 63, gv st 64, gv st 65, gv st 66, mkS (nats (fewL (freeS most l) n)), .int .i64 (fewL (freeS most l) n).length, .int .i64 i, gv st 70, gv st 71, gv st 72, gv st 73, gv st 74, gv st 75, gv st 76, gv st 77, gv st 78, gv st 79, gv st 80, gv st 81, gv st 82, gv st 83, gv st 84, gv st 85, gv st 86, gv st 87, gv st 88, gv st 89, gv st 90, gv st 91, gv st 92, gv st 93, gv st 94, gv st 95], (F ++ g) :: H, []⟩
set_option maxHeartbeats 2000000 in
set_option maxRecDepth 100000 in
theorem take25h {H : Heap} {most sv l} {who : ByteArray} {n : Int} (hs : BV H sv l) (hw : ∀ b ∈ l, b.who.size ≤ maxL) (hm : who.size ≤ maxL) (hn : l.length ≤ 512) : WC C 25 [.agg [.int .i64 most, sv], .str who, .int .i64 n] H fun v' H' d => v' = (takeRes most l who n) ∧ H' = H ∧ d = [] := by
  refine WC_own (fn := Tryd.f25) Tryd.func25 rfl rfl rfl (Or.inl rfl) ?_; simp only [Tryd.f25, List.replicate, List.length_cons, List.length_nil, Nat.reduceSub, Nat.reduceAdd, List.cons_append, List.nil_append]
  simp -dsimp -implicitDefEqProofs only [go_sem, C_P, C_deep, reduceCtorEq, Nat.reduceAdd, Nat.reduceLeDiff, Nat.reduceLT, Nat.reduceEqDiff, Nat.reduceMul, Nat.reduceSub, Nat.reducePow, Int.reduceToNat, Int.reduceLE, Int.reduceLT, Int.reduceEq, hs.cells, hs.tup]
  refine named45 hs hw hm hn (fun h F v hF => ?_) (fun h F q hF hc => ?_)
  · have h1 : F[1]? = some ⟨[.int .i64 0, .nils], 0, 0⟩ := hF.get rfl
    have hl1 : 1 < F.length := (List.getElem?_eq_some_iff.1 h1).1
    have hE : takeE most l who n = namedE most l who := by unfold takeE; rw [if_pos h]
    rw [takeRes_bad (by rw [hE]; exact h), hE]
    simp -dsimp -implicitDefEqProofs only [go_sem, C_P, C_deep, reduceCtorEq, Nat.reduceAdd, Nat.reduceLeDiff, Nat.reduceLT, Nat.reduceEqDiff, Nat.reduceMul, Nat.reduceSub, Nat.reducePow, Int.reduceToNat, Int.reduceLE, Int.reduceLT, Int.reduceEq, show (namedE most l who != 0) = true by simpa using h, h1, List.getElem?_set, hl1]
  · have h1 : F[1]? = some ⟨[.int .i64 0, .nils], 0, 0⟩ := hF.get rfl
    have hl1 : 1 < F.length := (List.getElem?_eq_some_iff.1 h1).1
    simp -dsimp -implicitDefEqProofs only [go_sem, C_P, C_deep, reduceCtorEq, Nat.reduceAdd, Nat.reduceLeDiff, Nat.reduceLT, Nat.reduceEqDiff, Nat.reduceMul, Nat.reduceSub, Nat.reducePow, Int.reduceToNat, Int.reduceLE, Int.reduceLT, Int.reduceEq, held46 hc.cop hn]
    have hln := len_SV sl_31 (mkS_SV (nats (whr (heldP who) l l.length)))
    rw [nats_len] at hln
    simp -dsimp -implicitDefEqProofs only [go_sem, C_P, C_deep, reduceCtorEq, Nat.reduceAdd, Nat.reduceLeDiff, Nat.reduceLT, Nat.reduceEqDiff, Nat.reduceMul, Nat.reduceSub, Nat.reducePow, Int.reduceToNat, Int.reduceLE, Int.reduceLT, Int.reduceEq, hln]
    refine Br_intro (fun h2 => ?_) (fun h2 => ?_)
    · have h2' : (whr (heldP who) l l.length).length ≠ 0 := by have := of_decide_eq_true h2; omega
      have hE : takeE most l who n = 7 := by unfold takeE; rw [if_neg (by simp [h]), if_pos h2']
      rw [takeRes_bad (by rw [hE]; decide), hE]
      simp -dsimp -implicitDefEqProofs only [go_sem, C_P, C_deep, reduceCtorEq, Nat.reduceAdd, Nat.reduceLeDiff, Nat.reduceLT, Nat.reduceEqDiff, Nat.reduceMul, Nat.reduceSub, Nat.reducePow, Int.reduceToNat, Int.reduceLE, Int.reduceLT, Int.reduceEq, h1, List.getElem?_set, hl1]
    · have h2' : ¬ (whr (heldP who) l l.length).length ≠ 0 := by have := of_decide_eq_false h2; omega
      have hE : takeE most l who n = fewE (freeS most l) n := by unfold takeE; rw [if_neg (by simp [h]), if_neg h2']
      have hlf := len_SV sl_31 (mkS_SV (nats (frees most l)))
      rw [nats_len] at hlf
      have hfr : ∀ (K : PV → Heap → Wr → Prop) (t : Hold K), WCh C 43 [.ref H.length q 0 0 2] (F :: H) K t = K (mkS (nats (frees most l))) (F :: H) [] := fun K t => free43 hc.cop hn
      simp -dsimp -implicitDefEqProofs only [go_sem, C_P, C_deep, reduceCtorEq, Nat.reduceAdd, Nat.reduceLeDiff, Nat.reduceLT, Nat.reduceEqDiff, Nat.reduceMul, Nat.reduceSub, Nat.reducePow, Int.reduceToNat, Int.reduceLE, Int.reduceLT, Int.reduceEq, hfr, hlf]
      refine WL_for (frees most l).length (I25a l most sv who n H F q) ⟨[], .nils, Acc_nil, by rw [List.append_nil]; rfl⟩ ?_ ?_
      · rintro i st hi ⟨g, av, hA, hst⟩
        rw [hst]
        generalize gv st = x
        have hd : decide ((i : Int) < (frees most l).length) = true := by simp; omega
        obtain ⟨k, hk⟩ : ∃ k, (frees most l)[i]? = some k := ⟨_, List.getElem?_eq_getElem hi⟩
        have hkl := frees_mem (List.mem_of_getElem? hk)
        obtain ⟨b, hb⟩ : ∃ b, l[k]? = some b := ⟨_, List.getElem?_eq_getElem hkl⟩
        obtain ⟨sv', hq, hkq, hbo⟩ := id hc
        rcases hbo with ⟨rfl, rfl⟩ | ⟨jj, rfl, hkj, hjq, hj'⟩
        · simp at hkl
        have hqa : (F ++ g)[q]? = some ⟨[.int .i64 most, .sl H.length jj 0 0 l.length 4 l.isEmpty], 0, 0⟩ := by rw [List.getElem?_append_left (List.getElem?_eq_some_iff.1 hq).1]; exact hq
        have hja : (F ++ g)[jj]? = some ⟨(blks l).flatten, 0, 0⟩ := by rw [List.getElem?_append_left (List.getElem?_eq_some_iff.1 hj').1]; exact hj'
        have hF1 : (blks l).flatten[k * 4]? = some (.int .i64 b.len) := fl_get (k := 0) (blks_four l) (blks_get hb) (by decide)
        have hF2 : k * 4 + 4 ≤ (blks l).flatten.length := fl_le (blks_four l) (by rw [blks_len]; exact hkl)
        generalize (blks l).flatten = F0 at hja hF1 hF2
        simp -dsimp -implicitDefEqProofs only [go_sem, C_P, C_deep, reduceCtorEq, Nat.reduceAdd, Nat.reduceLeDiff, Nat.reduceLT, Nat.reduceEqDiff, Nat.reduceMul, Nat.reduceSub, Nat.reducePow, Int.reduceToNat, Int.reduceLE, Int.reduceLT, Int.reduceEq, hd, index_SV (k := .i64) sl_31 (mkS_SV (nats (frees most l))) (nats_get hk) rfl, hqa, hja, hF1, hF2, hkl, show (0 : Int) ≤ (k : Int) from by omega]
        have hsn : ((frees most l).take i).map (lenAt l) ++ [b.len] = ((frees most l).take (i + 1)).map (lenAt l) := by rw [← take_snoc hk, List.map_append]; simp [lenAt_of hb]
        refine WXh_acc sl_31 hA rfl F [_] rfl 0 (by omega) rfl rfl (by decide) (room_ok (m := 512) (by decide) (by rw [ints_len, List.length_map, List.length_take]; have := frees_len (most := most) (l := l); omega) (by decide)) ?_
        rw [ints_snoc, hsn]
        intro av' g' wr hA' hwr
        simp -dsimp -implicitDefEqProofs only [go_sem, C_P, C_deep, reduceCtorEq, Nat.reduceAdd, Nat.reduceLeDiff, Nat.reduceLT, Nat.reduceEqDiff, Nat.reduceMul, Nat.reduceSub, Nat.reducePow, Int.reduceToNat, Int.reduceLE, Int.reduceLT, Int.reduceEq, addWs_own hwr, wrap_succ (show i < 9223372036854775807 by have := frees_len (most := most) (l := l); omega), hA'.cells, hA'.tup]
        exact ⟨g', av', hA', rfl⟩
      · rintro st ⟨g, av, hA, hst⟩
        rw [hst]
        generalize gv st = x
        have hd : decide (((frees most l).length : Int) < (frees most l).length) = false := by simp
        rw [List.take_length] at hA
        have hRV : RV ((F ++ g) :: H) av (freeS most l) := RV.acc hA rfl rfl
        simp -dsimp -implicitDefEqProofs only [go_sem, C_P, C_deep, reduceCtorEq, Nat.reduceAdd, Nat.reduceLeDiff, Nat.reduceLT, Nat.reduceEqDiff, Nat.reduceMul, Nat.reduceSub, Nat.reducePow, Int.reduceToNat, Int.reduceLE, Int.reduceLT, Int.reduceEq, hd, Fewest36 hRV ⟨hA.cells, hA.tup⟩, fewRes_eq]
        refine Br_intro (fun h3 => ?_) (fun h3 => ?_)
        · have h3' : fewE (freeS most l) n ≠ 0 := by simpa using h3
          have h1a : (F ++ g)[1]? = some ⟨[.int .i64 0, .nils], 0, 0⟩ := by rw [List.getElem?_append_left hl1]; exact h1
          have hl1a : 1 < F.length + g.length := by omega
          rw [takeRes_bad (by rw [hE]; exact h3'), hE]
          simp -dsimp -implicitDefEqProofs only [go_sem, C_P, C_deep, reduceCtorEq, Nat.reduceAdd, Nat.reduceLeDiff, Nat.reduceLT, Nat.reduceEqDiff, Nat.reduceMul, Nat.reduceSub, Nat.reducePow, Int.reduceToNat, Int.reduceLE, Int.reduceLT, Int.reduceEq, h1a, List.getElem?_set, hl1a]
        · have h3' : fewE (freeS most l) n = 0 := by simpa using h3
          rw [takeRes_ok (by rw [hE]; exact h3')]
          have hls := len_SV sl_31 (mkS_SV (nats (fewL (freeS most l) n)))
          rw [nats_len] at hls
          simp -dsimp -implicitDefEqProofs only [go_sem, C_P, C_deep, reduceCtorEq, Nat.reduceAdd, Nat.reduceLeDiff, Nat.reduceLT, Nat.reduceEqDiff, Nat.reduceMul, Nat.reduceSub, Nat.reducePow, Int.reduceToNat, Int.reduceLE, Int.reduceLT, Int.reduceEq, hls, h3']
          have htl : (takeO most l n).length = (fewL (freeS most l) n).length := by unfold takeO; simp
          have hfl : (fewL (freeS most l) n).length ≤ 512 := by have := fewL_len (set := freeS most l) (n := n); rw [freeS_len] at this; have := frees_len (most := most) (l := l); omega
          refine WL_for (fewL (freeS most l) n).length (I25b l most sv who n H q) ⟨F, g, .nils, av, Acc_nil, hc, h1, rfl⟩ ?_ ?_
          · clear hd hst st x hc h1 hl1 hA hRV hF
            rintro i st hi ⟨F, g, av, a12, hA, hc, h1, hst⟩
            rw [hst]
            generalize gv st = x
            have hd : decide ((i : Int) < (fewL (freeS most l) n).length) = true := by simp; omega
            obtain ⟨k, hk⟩ : ∃ k, (fewL (freeS most l) n)[i]? = some k := ⟨_, List.getElem?_eq_getElem hi⟩
            have hkf : k < (frees most l).length := by have := fewL_mem (List.mem_of_getElem? hk); rwa [freeS_len] at this
            obtain ⟨p, hp⟩ : ∃ p, (frees most l)[k]? = some p := ⟨_, List.getElem?_eq_getElem hkf⟩
            have hpt : (takeO most l n)[i]? = some p := by unfold takeO; rw [List.getElem?_map, hk, Option.map_some, List.getD_eq_getElem?_getD, hp]; rfl
            have hpl : p < l.length := frees_mem (List.mem_of_getElem? hp)
            have hll := setIdx_len (withW who) ((takeO most l n).take i) l
            obtain ⟨b, hb⟩ : ∃ b, (setIdx (withW who) l ((takeO most l n).take i))[p]? = some b := ⟨_, List.getElem?_eq_getElem (by rw [hll]; exact hpl)⟩
            have hnext : setIdx (withW who) l ((takeO most l n).take (i + 1)) = (setIdx (withW who) l ((takeO most l n).take i)).set p (withW who b) := by rw [← take_snoc hpt, setIdx_snoc hb]
            generalize hL : setIdx (withW who) l ((takeO most l n).take i) = L at hc hb hll hnext
            obtain ⟨sv', hq, hkq, hbo⟩ := id hc
            rcases hbo with ⟨rfl, rfl⟩ | ⟨jj, rfl, hkj, hjq, hj'⟩
            · simp at hb
            have hlj : jj < F.length := (List.getElem?_eq_some_iff.1 hj').1
            have hqa : (F ++ g)[q]? = some ⟨[.int .i64 most, .sl H.length jj 0 0 L.length 4 L.isEmpty], 0, 0⟩ := by rw [List.getElem?_append_left (List.getElem?_eq_some_iff.1 hq).1]; exact hq
            have hja : (F ++ g)[jj]? = some ⟨(blks L).flatten, 0, 0⟩ := by rw [List.getElem?_append_left hlj]; exact hj'
            have hset : ∀ o, (F ++ g).set jj o = F.set jj o ++ g := fun o => List.set_append_left _ _ hlj
            have hF2 : p * 4 + 4 ≤ (blks L).flatten.length := fl_le (blks_four L) (by rw [blks_len, hll]; exact hpl)
            have hF3 := fl_set1 (sz := 4) (k := 3) (v := .str who) (by decide) (blks_four L) (blks_get hb)
            rw [show b.c.set 3 (.str who) = (withW who b).c from rfl, blks_set] at hF3
            have hc' : CopF H.length 2 (F.set jj ⟨(blks (L.set p (withW who b))).flatten, 0, 0⟩) q most (L.set p (withW who b)) := CopF.put hq hkq hkj hjq hlj (by simp)
            simp -dsimp -implicitDefEqProofs only [go_sem, C_P, C_deep, reduceCtorEq, Nat.reduceAdd, Nat.reduceLeDiff, Nat.reduceLT, Nat.reduceEqDiff, Nat.reduceMul, Nat.reduceSub, Nat.reducePow, Int.reduceToNat, Int.reduceLE, Int.reduceLT, Int.reduceEq, hd, index_SV (k := .i64) sl_31 (mkS_SV (nats (fewL (freeS most l) n))) (nats_get hk) rfl, index_SV (k := .i64) sl_31 (mkS_SV (nats (frees most l))) (nats_get hp) rfl, hqa, hja, hll, hpl, hF2, hF3, hset, show (0 : Int) ≤ (p : Int) from by omega]
            refine WXh_acc sl_31 hA rfl (F.set jj ⟨(blks (L.set p (withW who b))).flatten, 0, 0⟩) [_] (by rw [List.length_set]) 0 (by simp) rfl rfl (by decide) (room_ok (m := 512) (by decide) (by rw [nats_len, List.length_take]; omega) (by decide)) ?_
            rw [nats_snoc, take_snoc hpt]
            intro av' g' wr hA' hwr
            simp -dsimp -implicitDefEqProofs only [go_sem, C_P, C_deep, reduceCtorEq, Nat.reduceAdd, Nat.reduceLeDiff, Nat.reduceLT, Nat.reduceEqDiff, Nat.reduceMul, Nat.reduceSub, Nat.reducePow, Int.reduceToNat, Int.reduceLE, Int.reduceLT, Int.reduceEq, addWs_own hwr, wrap_succ (show i < 9223372036854775807 by omega), hA'.cells, hA'.tup]
            refine ⟨F.set jj ⟨(blks (L.set p (withW who b))).flatten, 0, 0⟩, g', av', a12, by rw [List.length_set]; exact hA', by rw [hnext]; exact hc', ?_, rfl⟩
            rw [List.getElem?_set_ne (by omega)]; exact h1
          · clear hd hst st x hc h1 hl1 hA hRV hF
            rintro st ⟨F, g, av, a12, hA, hc, h1, hst⟩
            rw [hst]
            generalize gv st = x
            have hd : decide (((fewL (freeS most l) n).length : Int) < (fewL (freeS most l) n).length) = false := by simp
            rw [← htl, List.take_length] at hc hA
            have hl1 : 1 < F.length := (List.getElem?_eq_some_iff.1 h1).1
            have hset1 : ∀ o, (F ++ g).set 1 o = F.set 1 o ++ g := fun o => List.set_append_left _ _ hl1
            have hr2 : ∀ o, reify ((F.set 1 o ++ g) :: H) H.length 5 av = some (mkS (nats (takeO most l n))) := fun o => reify_Acc hA rfl (p := F.set 1 o) (by rw [List.length_set]) (n := 3) (by decide) (nats_scal _)
            obtain ⟨sv', hq, hkq, hbo⟩ := id hc
            have hlq : q < F.length := (List.getElem?_eq_some_iff.1 hq).1
            have hqa : (F ++ g)[q]? = some ⟨[.int .i64 most, sv'], 0, 0⟩ := by rw [List.getElem?_append_left hlq]; exact hq
            have h1a : (F ++ g)[1]? = some ⟨[.int .i64 0, .nils], 0, 0⟩ := by rw [List.getElem?_append_left hl1]; exact h1
            have h1b : ∀ o, (F.set 1 o ++ g)[1]? = some o := fun o => by rw [List.getElem?_append_left (by rw [List.length_set]; exact hl1), List.getElem?_set_self hl1]
            rcases hbo with ⟨rfl, hnil⟩ | ⟨jj, rfl, hkj, hjq, hj'⟩
            · have hLn : takeL most l who n = [] := hnil
              rw [hLn]
              simp -dsimp -implicitDefEqProofs only [go_sem, C_P, C_deep, reduceCtorEq, Nat.reduceAdd, Nat.reduceLeDiff, Nat.reduceLT, Nat.reduceEqDiff, Nat.reduceMul, Nat.reduceSub, Nat.reducePow, Int.reduceToNat, Int.reduceLE, Int.reduceLT, Int.reduceEq, hd, hqa, h1a, hset1, h1b, hr2]
              rfl
            · have hne : takeL most l who n ≠ [] := by
                intro h0
                have h1 := setIdx_len (withW who) (takeO most l n) l
                rw [show setIdx (withW who) l (takeO most l n) = [] from h0] at h1
                have h2 : l = [] := by cases l with | nil => rfl | cons a l => simp at h1
                subst h2
                exact fewE_nil n h3'
              have hemp : (setIdx (withW who) l (takeO most l n)).isEmpty = false := by cases h : setIdx (withW who) l (takeO most l n) with | nil => exact absurd h hne | cons a b => rfl
              rw [hemp] at hqa
              have hj1 : ∀ o, (F.set 1 o ++ g)[jj]? = some ⟨(blks (takeL most l who n)).flatten, 0, 0⟩ := fun o => by
                rw [List.getElem?_append_left (by rw [List.length_set]; exact (List.getElem?_eq_some_iff.1 hj').1), List.getElem?_set_ne (by omega)]; exact hj'
              have hr1 : ∀ o, reify ((F.set 1 o ++ g) :: H) H.length 4 (.sl H.length jj 0 0 (takeL most l who n).length 4 false) = some (mkS (blks (takeL most l who n))) := fun o => reify_blk (hj1 o) rfl hne
              have hr1' : ∀ o, reify ((F.set 1 o ++ g) :: H) H.length 4 (.sl H.length jj 0 0 (setIdx (withW who) l (takeO most l n)).length 4 false) = some (mkS (blks (takeL most l who n))) := hr1
              simp -dsimp -implicitDefEqProofs only [go_sem, C_P, C_deep, reduceCtorEq, Nat.reduceAdd, Nat.reduceLeDiff, Nat.reduceLT, Nat.reduceEqDiff, Nat.reduceMul, Nat.reduceSub, Nat.reducePow, Int.reduceToNat, Int.reduceLE, Int.reduceLT, Int.reduceEq, hd, hqa, h1a, hset1, h1b, hr2, hr1']
theorem take25 {most sv l} {who : ByteArray} {n : Int} (hs : SV sv (blks l)) (hw : ∀ b ∈ l, b.who.size ≤ maxL) (hm : who.size ≤ maxL) (hn : l.length ≤ 512) : Pure C 25 [.agg [.int .i64 most, sv], .str who, .int .i64 n] (takeRes most l who n) := fun _ => take25h (BV.of hs) hw hm hn

theorem fewE_zero {set : List Int} {n : Int} (h : fewE set n = 0) : chkSet set = 0 ∧ inR_ n 1 100000 = true ∧ fN set n < 258 := by
  unfold fewE at h
  split at h
  · exact absurd h ‹_›
  · rename_i h1
    split at h
    · cases h
    · rename_i h2
      split at h
      · rename_i h3; exact ⟨by simpa using h1, by simpa using h2, h3⟩
      · cases h
theorem fewL_ne {set : List Int} {n : Int} (h : fewE set n = 0) : fewL set n ≠ [] := by
  obtain ⟨h1, h2, h3⟩ := fewE_zero h
  unfold fewL
  rw [if_pos h]
  exact fewest_ne (chkSet_small h1).pos (inR_true.1 h2).1 (by unfold fewest; rw [if_pos h3])
def I26a (l : List Blk) (most : Int) (sv : PV) (who : ByteArray) (n : Int) (H : Heap) (i : Nat) (st : St) : Prop :=
  ∃ (g : List AObj) (av : PV), Acc 1 H.length 2 g av (ints (((frees most l).take i).map (lenAt l))) ∧
    st = ⟨[.agg [.int .i64 most, sv], .str who, .int .i64 n, .ref H.length 0 0 0 2, gv st 4, gv st 5, .ref H.length 1 0 0 2, .nils, .int .i64 0, gv st 9, mkS (nats (frees most l)), av, .int .i64 i, gv st 13, gv st 14, gv st 15, gv st 16, gv st 17, gv st 18, gv st 19, gv st 20, gv st 21, gv st 22, gv st 23, gv st 24, gv st 25, gv st 26, gv st 27, gv st 28, gv st 29, gv st 30, gv st 31, gv st 32, gv st 33, gv st 34, gv st 35, gv st 36, gv st 37, gv st 38, gv st 39, gv st 40, gv st 41, gv st 42, gv st 43, gv st 44, gv st 45, gv st 46, gv st 47, gv st 48, gv st 49, gv st 50, gv st 51, gv st 52, gv st 53, gv st 54, gv st 55, gv st 56, gv st 57, gv st 58, gv st 59, gv st 60, gv st 61, gv st 62, gv st 63, gv st 64, gv st 65, gv st 66, gv st 67, gv st 68, gv st 69, gv st 70, gv st 71, gv st 72, gv st 73, gv st 74, gv st 75, gv st 76, gv st 77, gv st 78, gv st 79, gv st 80, gv st 81, gv st 82, gv st 83, gv st 84, gv st 85, gv st 86, gv st 87, gv st 88, gv st 89, gv st 90, gv st 91], (⟨[.int .i64 most, sv], 0, 0⟩ :: ⟨[.int .i64 0, .nils], 0, 0⟩ :: g) :: H, []⟩
def I26b (l : List Blk) (most : Int) (sv : PV) (who : ByteArray) (n : Int) (H : Heap) (i : Nat) (st : St) : Prop :=
  ∃ (g : List AObj) (av a11 sv' : PV), Acc 1 H.length 2 g av (nats ((takeO most l n).take i)) ∧ SV sv' (blks (setIdx (withW who) l ((takeO most l n).take i))) ∧ (i ≠ 0 → sv' = mkS (blks (setIdx (withW who) l ((takeO most l n).take i)))) ∧
    st = ⟨[.agg [.int .i64 most, sv], .str who, .int .i64 n, .ref H.length 0 0 0 2, gv st 4, gv st 5, .ref H.length 1 0 0 2, .nils, .int .i64 0, gv st 9, mkS (nats (frees most l)), a11, gv st 12, mkS (nats (fewL (freeS most l) n)), .int .i64 0, av, .int .i64 i, gv st 17, gv st 18, gv st 19, gv st 20, gv st 21, gv st 22, gv st 23, gv st 24, gv st 25, gv st 26, gv st 27, gv st 28, gv st 29, gv st 30, gv st 31, gv st 32, gv st 33, gv st 34, gv st 35, gv st 36, gv st 37, gv st 38, gv st 39, gv st 40, gv st 41, gv st 42, gv st 43, gv st 44, gv st 45, gv st 46, gv st 47, gv st 48, gv st 49, gv st 50, gv st 51, gv st 52, gv st 53, gv st 54, gv st 55, gv st 56, gv st 57, gv st 58, gv st 59, gv st 60, gv st 61, gv st 62, gv st 63, gv st 64, gv st 65, gv st 66, gv st 67, gv st 68, gv st 69, gv st 70, gv st 71, gv st 72, gv st 73, gv st 74, gv st 75, gv st 76, gv st 77, gv st 78, gv st 79, gv st 80, gv st 81, gv st 82, gv st 83, gv st 84, gv st 85, gv st 86, gv st 87, gv st 88, gv st 89, gv st 90, gv st 91], (⟨[.int .i64 most, sv'], 0, 0⟩ :: ⟨[.int .i64 0, .nils], 0, 0⟩ :: g) :: H, []⟩
set_option maxHeartbeats 2000000 in
set_option maxRecDepth 100000 in
theorem take26 {most sv l} {who : ByteArray} {n : Int} (hs : SV sv (blks l)) (hw : ∀ b ∈ l, b.who.size ≤ maxL) (hm : who.size ≤ maxL) (hn : l.length ≤ 8 ∨ chkS most l ≠ 0) : Pure C 26 [.agg [.int .i64 most, sv], .str who, .int .i64 n] (takeRes most l who n) := by
  intro H
  refine WC_own (fn := Tryd.f26) Tryd.func26 rfl rfl rfl (Or.inl rfl) ?_; simp only [Tryd.f26, List.replicate, List.length_cons, List.length_nil, Nat.reduceSub, Nat.reduceAdd, List.cons_append, List.nil_append]
  have hdr := dr_26; simp only [drwF, Tryd.f26, drw, cond_true, cond_false, List.append_nil, List.nil_append, List.cons_append, List.map_cons, List.map_nil, List.cons.injEq, and_true] at hdr
  simp -dsimp -implicitDefEqProofs only [go_sem, C_P, C_deep, reduceCtorEq, Nat.reduceAdd, Nat.reduceLeDiff, Nat.reduceLT, Nat.reduceEqDiff, Nat.reduceMul, Nat.reduceSub, Nat.reducePow, Int.reduceToNat, Int.reduceLE, Int.reduceLT, Int.reduceEq, WCh_pure (named47 hs hw hm)]
  refine Br_intro (fun h => ?_) (fun h => ?_)
  · have h' : namedE most l who ≠ 0 := by simpa using h
    have hE : takeE most l who n = namedE most l who := by unfold takeE; rw [if_pos h']
    rw [takeRes_bad (by rw [hE]; exact h'), hE]
    simp -dsimp -implicitDefEqProofs only [go_sem, C_P, C_deep, reduceCtorEq, Nat.reduceAdd, Nat.reduceLeDiff, Nat.reduceLT, Nat.reduceEqDiff, Nat.reduceMul, Nat.reduceSub, Nat.reducePow, Int.reduceToNat, Int.reduceLE, Int.reduceLT, Int.reduceEq]
  · have h' : namedE most l who = 0 := by simpa using h
    have hck := namedE_chk h'
    have hl8 : l.length ≤ 8 := hn.resolve_right (by simp [hck])
    have hln := len_SV sl_31 (mkS_SV (nats (whr (heldP who) l l.length)))
    rw [nats_len] at hln
    simp -dsimp -implicitDefEqProofs only [go_sem, C_P, C_deep, reduceCtorEq, Nat.reduceAdd, Nat.reduceLeDiff, Nat.reduceLT, Nat.reduceEqDiff, Nat.reduceMul, Nat.reduceSub, Nat.reducePow, Int.reduceToNat, Int.reduceLE, Int.reduceLT, Int.reduceEq, WCh_pure (held48 who hs (by omega)), hln]
    refine Br_intro (fun h2 => ?_) (fun h2 => ?_)
    · have h2' : (whr (heldP who) l l.length).length ≠ 0 := by have := of_decide_eq_true h2; omega
      have hE : takeE most l who n = 7 := by unfold takeE; rw [if_neg (by simp [h']), if_pos h2']
      rw [takeRes_bad (by rw [hE]; decide), hE]
      simp -dsimp -implicitDefEqProofs only [go_sem, C_P, C_deep, reduceCtorEq, Nat.reduceAdd, Nat.reduceLeDiff, Nat.reduceLT, Nat.reduceEqDiff, Nat.reduceMul, Nat.reduceSub, Nat.reducePow, Int.reduceToNat, Int.reduceLE, Int.reduceLT, Int.reduceEq]
    · have h2' : ¬ (whr (heldP who) l l.length).length ≠ 0 := by have := of_decide_eq_false h2; omega
      have hE : takeE most l who n = fewE (freeS most l) n := by unfold takeE; rw [if_neg (by simp [h']), if_neg h2']
      have hlf := len_SV sl_31 (mkS_SV (nats (frees most l)))
      rw [nats_len] at hlf
      have hfl8 := frees_len (most := most) (l := l)
      have hfr : Pure C 44 [.agg [.int .i64 most, sv]] (mkS (nats (frees most l))) := avail44 hs (by omega)
      simp -dsimp -implicitDefEqProofs only [go_sem, C_P, C_deep, reduceCtorEq, Nat.reduceAdd, Nat.reduceLeDiff, Nat.reduceLT, Nat.reduceEqDiff, Nat.reduceMul, Nat.reduceSub, Nat.reducePow, Int.reduceToNat, Int.reduceLE, Int.reduceLT, Int.reduceEq, WCh_pure hfr]
      refine WL_for (frees most l).length (I26a l most sv who n H) ⟨[], .nils, Acc_nil, rfl⟩ ?_ ?_
      · rintro i st hi ⟨g, av, hA, hst⟩
        rw [hst]
        generalize gv st = x
        have hd : decide ((i : Int) < (frees most l).length) = true := by simp; omega
        obtain ⟨k, hk⟩ : ∃ k, (frees most l)[i]? = some k := ⟨_, List.getElem?_eq_getElem hi⟩
        have hkl := frees_mem (List.mem_of_getElem? hk)
        obtain ⟨b, hb⟩ : ∃ b, l[k]? = some b := ⟨_, List.getElem?_eq_getElem hkl⟩
        have hbc : (blks l)[k]? = some [.int .i64 b.len, .int .i64 b.wear, .int .i64 b.uses, .str b.who] := blks_get hb
        have hsn : ((frees most l).take i).map (lenAt l) ++ [b.len] = ((frees most l).take (i + 1)).map (lenAt l) := by rw [← take_snoc hk, List.map_append]; simp [lenAt_of hb]
        simp -dsimp -implicitDefEqProofs only [go_sem, C_P, C_deep, reduceCtorEq, Nat.reduceAdd, Nat.reduceLeDiff, Nat.reduceLT, Nat.reduceEqDiff, Nat.reduceMul, Nat.reduceSub, Nat.reducePow, Int.reduceToNat, Int.reduceLE, Int.reduceLT, Int.reduceEq, hlf, hd, ↓W_drawnL hdr, index_SV (k := .i64) sl_31 (mkS_SV (nats (frees most l))) (nats_get hk) rfl, index_SV (k := .i64) sl_26 hs hbc rfl]
        refine WXh_acc sl_31 hA rfl [_, _] [_] rfl 0 (by omega) rfl rfl (by decide) (room_ok (m := 512) (by decide) (by rw [ints_len, List.length_map, List.length_take]; omega) (by decide)) ?_
        rw [ints_snoc, hsn]
        intro av' g' wr hA' hwr
        simp -dsimp -implicitDefEqProofs only [go_sem, C_P, C_deep, reduceCtorEq, Nat.reduceAdd, Nat.reduceLeDiff, Nat.reduceLT, Nat.reduceEqDiff, Nat.reduceMul, Nat.reduceSub, Nat.reducePow, Int.reduceToNat, Int.reduceLE, Int.reduceLT, Int.reduceEq, addWs_own hwr, wrap_succ (show i < 9223372036854775807 by omega), hA'.cells, hA'.tup]
        exact ⟨g', av', hA', rfl⟩
      · rintro st ⟨g, av, hA, hst⟩
        rw [hst]
        generalize gv st = x
        have hd : decide (((frees most l).length : Int) < (frees most l).length) = false := by simp
        rw [List.take_length] at hA
        have hRV : RV ((⟨[.int .i64 most, sv], 0, 0⟩ :: ⟨[.int .i64 0, .nils], 0, 0⟩ :: g) :: H) av (freeS most l) := RV.acc (p := [_, _]) hA rfl rfl
        simp -dsimp -implicitDefEqProofs only [go_sem, C_P, C_deep, reduceCtorEq, Nat.reduceAdd, Nat.reduceLeDiff, Nat.reduceLT, Nat.reduceEqDiff, Nat.reduceMul, Nat.reduceSub, Nat.reducePow, Int.reduceToNat, Int.reduceLE, Int.reduceLT, Int.reduceEq, hlf, hd, few54h hRV (n := n) (by rw [freeS_len]; omega), fewRes_eq]
        refine Br_intro (fun h3 => ?_) (fun h3 => ?_)
        · have h3' : fewE (freeS most l) n ≠ 0 := by simpa using h3
          rw [takeRes_bad (by rw [hE]; exact h3'), hE]
          simp -dsimp -implicitDefEqProofs only [go_sem, C_P, C_deep, reduceCtorEq, Nat.reduceAdd, Nat.reduceLeDiff, Nat.reduceLT, Nat.reduceEqDiff, Nat.reduceMul, Nat.reduceSub, Nat.reducePow, Int.reduceToNat, Int.reduceLE, Int.reduceLT, Int.reduceEq]
        · have h3' : fewE (freeS most l) n = 0 := by simpa using h3
          rw [takeRes_ok (by rw [hE]; exact h3')]
          have hls := len_SV sl_31 (mkS_SV (nats (fewL (freeS most l) n)))
          rw [nats_len] at hls
          simp -dsimp -implicitDefEqProofs only [go_sem, C_P, C_deep, reduceCtorEq, Nat.reduceAdd, Nat.reduceLeDiff, Nat.reduceLT, Nat.reduceEqDiff, Nat.reduceMul, Nat.reduceSub, Nat.reducePow, Int.reduceToNat, Int.reduceLE, Int.reduceLT, Int.reduceEq, h3']
          have htl : (takeO most l n).length = (fewL (freeS most l) n).length := by unfold takeO; simp
          have hfl : (fewL (freeS most l) n).length ≤ 512 := by have := fewL_len (set := freeS most l) (n := n); rw [freeS_len] at this; omega
          refine WL_for (fewL (freeS most l) n).length (I26b l most sv who n H) ⟨g, .nils, av, sv, Acc_nil, hs, fun h => absurd rfl h, rfl⟩ ?_ ?_
          · clear hd hst st x hA hRV
            rintro i st hi ⟨g, av, a12, sv', hA, hs', h0, hst⟩
            rw [hst]
            generalize gv st = x
            have hd : decide ((i : Int) < (fewL (freeS most l) n).length) = true := by simp; omega
            obtain ⟨k, hk⟩ : ∃ k, (fewL (freeS most l) n)[i]? = some k := ⟨_, List.getElem?_eq_getElem hi⟩
            have hkf : k < (frees most l).length := by have := fewL_mem (List.mem_of_getElem? hk); rwa [freeS_len] at this
            obtain ⟨p, hp⟩ : ∃ p, (frees most l)[k]? = some p := ⟨_, List.getElem?_eq_getElem hkf⟩
            have hpt : (takeO most l n)[i]? = some p := by unfold takeO; rw [List.getElem?_map, hk, Option.map_some, List.getD_eq_getElem?_getD, hp]; rfl
            have hpl : p < l.length := frees_mem (List.mem_of_getElem? hp)
            have hll := setIdx_len (withW who) ((takeO most l n).take i) l
            obtain ⟨b, hb⟩ : ∃ b, (setIdx (withW who) l ((takeO most l n).take i))[p]? = some b := ⟨_, List.getElem?_eq_getElem (by rw [hll]; exact hpl)⟩
            have hnext : setIdx (withW who) l ((takeO most l n).take (i + 1)) = (setIdx (withW who) l ((takeO most l n).take i)).set p (withW who b) := by rw [← take_snoc hpt, setIdx_snoc hb]
            generalize hL : setIdx (withW who) l ((takeO most l n).take i) = L at hs' h0 hb hll hnext
            have hbc : (blks L)[p]? = some [.int .i64 b.len, .int .i64 b.wear, .int .i64 b.uses, .str b.who] := blks_get hb
            have hwith : Pure C 55 [.agg [.int .i64 most, sv'], .int .i64 (p : Int), .agg [.int .i64 b.len, .int .i64 b.wear, .int .i64 b.uses, .str who]] (.agg [.int .i64 most, mkS (blks (L.set p (withW who b)))]) := with55 (b := withW who b) hs' (by omega) (by omega)
            simp -dsimp -implicitDefEqProofs only [go_sem, C_P, C_deep, reduceCtorEq, Nat.reduceAdd, Nat.reduceLeDiff, Nat.reduceLT, Nat.reduceEqDiff, Nat.reduceMul, Nat.reduceSub, Nat.reducePow, Int.reduceToNat, Int.reduceLE, Int.reduceLT, Int.reduceEq, hls, hd, index_SV (k := .i64) sl_31 (mkS_SV (nats (fewL (freeS most l) n))) (nats_get hk) rfl, index_SV (k := .i64) sl_31 (mkS_SV (nats (frees most l))) (nats_get hp) rfl]
            refine WXh_acc sl_31 hA rfl [_, _] [_] rfl 0 (by simp; omega) rfl rfl (by decide) (room_ok (m := 512) (by decide) (by rw [nats_len, List.length_take]; omega) (by decide)) ?_
            rw [nats_snoc, take_snoc hpt]
            intro av' g' wr hA' hwr
            simp -dsimp -implicitDefEqProofs only [go_sem, C_P, C_deep, reduceCtorEq, Nat.reduceAdd, Nat.reduceLeDiff, Nat.reduceLT, Nat.reduceEqDiff, Nat.reduceMul, Nat.reduceSub, Nat.reducePow, Int.reduceToNat, Int.reduceLE, Int.reduceLT, Int.reduceEq, addWs_own hwr, hA'.cells, hA'.tup, index_SV (k := .i64) sl_26 hs' hbc rfl, hs'.cells, hs'.tup, WCh_pure hwith, (mkS_SV (blks (L.set p (withW who b)))).cells, (mkS_SV (blks (L.set p (withW who b)))).tup, wrap_succ (show i < 9223372036854775807 by omega)]
            exact ⟨_, av', a12, _, hA'.app _, by rw [hnext]; exact mkS_SV _, fun _ => by rw [hnext], rfl⟩
          · clear hd hst st x hA hRV
            rintro st ⟨g, av, a12, sv', hA, hs', h0, hst⟩
            rw [hst]
            generalize gv st = x
            have hd : decide (((fewL (freeS most l) n).length : Int) < (fewL (freeS most l) n).length) = false := by simp
            rw [← htl, List.take_length] at hs' hA
            have hr2 : ∀ a b : AObj, reify ((a :: b :: g) :: H) H.length 5 av = some (mkS (nats (takeO most l n))) := fun a b => reify_Acc hA rfl (p := [a, b]) rfl (n := 3) (by decide) (nats_scal _)
            have hne : fewL (freeS most l) n ≠ [] := fewL_ne h3'
            have h0' : sv' = mkS (blks (takeL most l who n)) := by
              have := h0 (by simpa using hne)
              rwa [← htl, List.take_length] at this
            subst h0'
            simp -dsimp -implicitDefEqProofs only [go_sem, C_P, C_deep, reduceCtorEq, Nat.reduceAdd, Nat.reduceLeDiff, Nat.reduceLT, Nat.reduceEqDiff, Nat.reduceMul, Nat.reduceSub, Nat.reducePow, Int.reduceToNat, Int.reduceLE, Int.reduceLT, Int.reduceEq, hls, hd, hr2, mkS_reify (k := 2) (blks_scal (takeL most l who n))]

def retB (w : Int) (b : Blk) : Blk := { b with wear := IntKind.i64.wrap (b.wear + w), uses := IntKind.i64.wrap (b.uses + 1), who := ByteArray.empty }
def overB (b : Blk) : Bool := decide (b.wear > 100000) || decide (b.uses > 1048576)
def retGo (w : Int) : List Blk → List Nat → Option (List Blk)
  | l, [] => some l
  | l, i :: idx => match l[i]? with
    | some b => if overB (retB w b) = true then none else retGo w (l.set i (retB w b)) idx
    | none => some l
def heldI (who : ByteArray) (l : List Blk) : List Nat := whr (heldP who) l l.length
def retE (most : Int) (l : List Blk) (who : ByteArray) (w : Int) : Int :=
  if namedE most l who ≠ 0 then namedE most l who else if inR_ w 0 100000 = false then 2 else if (heldI who l).length = 0 then 6
  else match retGo w l (heldI who l) with
    | some _ => 0
    | none => 11
def retL (l : List Blk) (who : ByteArray) (w : Int) : List Blk := (retGo w l (heldI who l)).getD []
theorem retGo_len {w : Int} : ∀ {idx : List Nat} {l l' : List Blk}, retGo w l idx = some l' → l'.length = l.length
  | [], l, l', h => by rw [retGo] at h; cases h; rfl
  | i :: idx, l, l', h => by
    rw [retGo] at h
    split at h
    · split at h
      · cases h
      · have := retGo_len h; rw [this]; simp
    · cases h; rfl
theorem heldI_mem {who l i} (h : i ∈ heldI who l) : i < l.length := (whr_mem h).1
theorem heldI_len {who l} : (heldI who l).length ≤ l.length := whr_len _ _ _
theorem drop_cons {α : Type} {l : List α} {i : Nat} {x : α} (h : l[i]? = some x) : l.drop i = x :: l.drop (i + 1) := by
  obtain ⟨hi, rfl⟩ := List.getElem?_eq_some_iff.1 h
  exact List.drop_eq_getElem_cons hi
theorem stkRes_bad {e most l} (h : e ≠ 0) : stkRes e most l = .tup [.agg [.int .i64 0, .nils], .int .i64 e] := by unfold stkRes; rw [if_pos h]
theorem stkRes_ok {most l} : stkRes 0 most l = .tup [.agg [.int .i64 most, mkS (blks l)], .int .i64 0] := by unfold stkRes; rw [if_neg (by decide)]
def I27 (l : List Blk) (most : Int) (sv : PV) (who : ByteArray) (w : Int) (H : Heap) (q : Nat) (i : Nat) (st : St) : Prop :=
  ∃ (F : List AObj) (L : List Blk), CopF H.length 2 F q most L ∧ L.length = l.length ∧ retGo w L ((heldI who l).drop i) = retGo w l (heldI who l) ∧ F[1]? = some ⟨[.int .i64 0, .nils], 0, 0⟩ ∧
    st = ⟨[.agg [.int .i64 most, sv], .str who, .int .i64 w, .ref H.length 0 0 0 2, gv st 4, gv st 5, .ref H.length 1 0 0 2, .int .i64 0, .ref H.length q 0 0 2, gv st 9, gv st 10, gv st 11, gv st 12, gv st 13, gv st 14, gv st 15, gv st 16, gv st 17, gv st 18, gv st 19, gv st 20, gv st 21, gv st 22, gv st 23, gv st 24, gv st 25, gv st 26, gv st 27, gv st 28, gv st 29, gv st 30, gv st 31, gv st 32, gv st 33, gv st 34, mkS (nats (heldI who l)), .int .i64 (heldI who l).length, .int .i64 i, gv st 38, gv st 39, gv st 40, gv st 41, gv st 42, gv st 43, gv st 44, gv st 45, gv st 46, gv st 47, gv st 48, gv st 49, gv st 50, gv st 51, gv st 52, gv st 53, gv st 54, gv st 55, gv st 56, gv st 57, gv st 58, gv st 59, gv st 60, gv st 61, gv st 62, gv st 63, gv st 64, gv st 65, gv st 66, gv st 67, gv st 68, gv st 69, gv st 70, gv st 71, gv st 72, gv st 73, gv st 74, gv st 75, gv st 76, gv st 77, gv st 78, gv st 79, gv st 80, gv st 81, gv st 82, gv st 83], F :: H, []⟩
set_option maxHeartbeats 2000000 in
set_option maxRecDepth 100000 in
theorem ret27h {H : Heap} {most sv l} {who : ByteArray} {w : Int} (hs : BV H sv l) (hw : ∀ b ∈ l, b.who.size ≤ maxL) (hm : who.size ≤ maxL) (hn : l.length ≤ 512) : WC C 27 [.agg [.int .i64 most, sv], .str who, .int .i64 w] H fun v' H' d => v' = (stkRes (retE most l who w) most (retL l who w)) ∧ H' = H ∧ d = [] := by
  refine WC_own (fn := Tryd.f27) Tryd.func27 rfl rfl rfl (Or.inl rfl) ?_; simp only [Tryd.f27, List.replicate, List.length_cons, List.length_nil, Nat.reduceSub, Nat.reduceAdd, List.cons_append, List.nil_append]
  simp -dsimp -implicitDefEqProofs only [go_sem, C_P, C_deep, reduceCtorEq, Nat.reduceAdd, Nat.reduceLeDiff, Nat.reduceLT, Nat.reduceEqDiff, Nat.reduceMul, Nat.reduceSub, Nat.reducePow, Int.reduceToNat, Int.reduceLE, Int.reduceLT, Int.reduceEq, hs.cells, hs.tup]
  refine named45 hs hw hm hn (fun h F v hF => ?_) (fun h F q hF hc => ?_)
  · have h1 : F[1]? = some ⟨[.int .i64 0, .nils], 0, 0⟩ := hF.get rfl
    have hl1 : 1 < F.length := (List.getElem?_eq_some_iff.1 h1).1
    have hE : retE most l who w = namedE most l who := by unfold retE; rw [if_pos h]
    rw [stkRes_bad (by rw [hE]; exact h), hE]
    simp -dsimp -implicitDefEqProofs only [go_sem, C_P, C_deep, reduceCtorEq, Nat.reduceAdd, Nat.reduceLeDiff, Nat.reduceLT, Nat.reduceEqDiff, Nat.reduceMul, Nat.reduceSub, Nat.reducePow, Int.reduceToNat, Int.reduceLE, Int.reduceLT, Int.reduceEq, show (namedE most l who != 0) = true by simpa using h, h1, List.getElem?_set, hl1]
  · have h1 : F[1]? = some ⟨[.int .i64 0, .nils], 0, 0⟩ := hF.get rfl
    have hl1 : 1 < F.length := (List.getElem?_eq_some_iff.1 h1).1
    simp -dsimp -implicitDefEqProofs only [go_sem, C_P, C_deep, reduceCtorEq, Nat.reduceAdd, Nat.reduceLeDiff, Nat.reduceLT, Nat.reduceEqDiff, Nat.reduceMul, Nat.reduceSub, Nat.reducePow, Int.reduceToNat, Int.reduceLE, Int.reduceLT, Int.reduceEq, WCh_pure (in49 _ _ _)]
    refine Br_intro (fun h2 => ?_) (fun h2 => ?_)
    · have hE : retE most l who w = 2 := by unfold retE; rw [if_neg (by simp [h]), if_pos (by simpa using h2)]
      rw [hE, stkRes_bad (by decide)]
      simp -dsimp -implicitDefEqProofs only [go_sem, C_P, C_deep, reduceCtorEq, Nat.reduceAdd, Nat.reduceLeDiff, Nat.reduceLT, Nat.reduceEqDiff, Nat.reduceMul, Nat.reduceSub, Nat.reducePow, Int.reduceToNat, Int.reduceLE, Int.reduceLT, Int.reduceEq, h1, List.getElem?_set, hl1]
    · have hin : inR_ w 0 100000 = true := by simpa using h2
      have hlh := len_SV sl_31 (mkS_SV (nats (heldI who l)))
      rw [nats_len] at hlh
      have hhe : ∀ (K : PV → Heap → Wr → Prop) (t : Hold K), WCh C 46 [.ref H.length q 0 0 2, .str who] (F :: H) K t = K (mkS (nats (heldI who l))) (F :: H) [] := fun K t => held46 hc.cop hn
      simp -dsimp -implicitDefEqProofs only [go_sem, C_P, C_deep, reduceCtorEq, Nat.reduceAdd, Nat.reduceLeDiff, Nat.reduceLT, Nat.reduceEqDiff, Nat.reduceMul, Nat.reduceSub, Nat.reducePow, Int.reduceToNat, Int.reduceLE, Int.reduceLT, Int.reduceEq, hhe, hlh]
      refine Br_intro (fun h3 => ?_) (fun h3 => ?_)
      · have h3' : (heldI who l).length = 0 := by have := eq_of_beq h3; omega
        have hE : retE most l who w = 6 := by unfold retE; rw [if_neg (by simp [h]), if_neg (by simp [hin]), if_pos h3']
        rw [hE, stkRes_bad (by decide)]
        simp -dsimp -implicitDefEqProofs only [go_sem, C_P, C_deep, reduceCtorEq, Nat.reduceAdd, Nat.reduceLeDiff, Nat.reduceLT, Nat.reduceEqDiff, Nat.reduceMul, Nat.reduceSub, Nat.reducePow, Int.reduceToNat, Int.reduceLE, Int.reduceLT, Int.reduceEq, h1, List.getElem?_set, hl1]
      · have h3' : ¬ (heldI who l).length = 0 := by have := ne_of_beq_false h3; omega
        have hE : retE most l who w = match retGo w l (heldI who l) with | some _ => 0 | none => 11 := by unfold retE; rw [if_neg (by simp [h]), if_neg (by simp [hin]), if_neg h3']
        simp -dsimp -implicitDefEqProofs only [go_sem, C_P, C_deep, reduceCtorEq, Nat.reduceAdd, Nat.reduceLeDiff, Nat.reduceLT, Nat.reduceEqDiff, Nat.reduceMul, Nat.reduceSub, Nat.reducePow, Int.reduceToNat, Int.reduceLE, Int.reduceLT, Int.reduceEq, hlh]
        refine WL_for (heldI who l).length (I27 l most sv who w H q) ⟨F, l, hc, rfl, rfl, h1, rfl⟩ ?_ ?_
        · clear hhe h1 hl1 hc hF
          rintro i st hi ⟨F, L, hc, hll, hG, h1, hst⟩
          rw [hst]
          generalize gv st = x
          have hl1 : 1 < F.length := (List.getElem?_eq_some_iff.1 h1).1
          have hd : decide ((i : Int) < (heldI who l).length) = true := by simp; omega
          obtain ⟨p, hp⟩ : ∃ p, (heldI who l)[i]? = some p := ⟨_, List.getElem?_eq_getElem hi⟩
          have hpl := heldI_mem (List.mem_of_getElem? hp)
          obtain ⟨b, hb⟩ : ∃ b, L[p]? = some b := ⟨_, List.getElem?_eq_getElem (by rw [hll]; exact hpl)⟩
          rw [drop_cons hp, retGo, hb] at hG
          simp only [] at hG
          have hLp : p < L.length := by omega
          obtain ⟨sv', hq, hkq, hbo⟩ := id hc
          rcases hbo with ⟨rfl, rfl⟩ | ⟨jj, rfl, hkj, hjq, hj'⟩
          · simp at hb
          have hlj : jj < F.length := (List.getElem?_eq_some_iff.1 hj').1
          have hF0 : p * 4 + 4 ≤ (blks L).flatten.length := fl_le (blks_four L) (by rw [blks_len]; exact hLp)
          have hFa := fl_set1 (sz := 4) (k := 3) (v := .str ByteArray.empty) (by decide) (blks_four L) (blks_get hb)
          rw [show b.c.set 3 (.str ByteArray.empty) = ({ b with who := ByteArray.empty } : Blk).c from rfl, blks_set] at hFa
          replace hFa : (blks L).flatten.take (p * 4 + 3) ++ .str { data := #[] } :: (blks L).flatten.drop (p * 4 + 3 + 1) = (blks (L.set p { b with who := ByteArray.empty })).flatten := hFa
          have hb1 : (L.set p { b with who := ByteArray.empty })[p]? = some { b with who := ByteArray.empty } := List.getElem?_set_self hLp
          have hF1 : p * 4 + 4 ≤ (blks (L.set p { b with who := ByteArray.empty })).flatten.length := fl_le (blks_four _) (by rw [blks_len]; simpa using hLp)
          have hFb := fl_set1 (sz := 4) (k := 1) (v := .int .i64 (IntKind.i64.wrap (b.wear + w))) (by decide) (blks_four _) (blks_get hb1)
          rw [show Blk.c ({ b with who := ByteArray.empty } : Blk) = [.int .i64 b.len, .int .i64 b.wear, .int .i64 b.uses, .str ByteArray.empty] from rfl] at hFb
          rw [show List.set [PV.int .i64 b.len, .int .i64 b.wear, .int .i64 b.uses, .str ByteArray.empty] 1 (.int .i64 (IntKind.i64.wrap (b.wear + w))) = ({ b with wear := IntKind.i64.wrap (b.wear + w), who := ByteArray.empty } : Blk).c from rfl, blks_set, List.set_set] at hFb
          have hb2 : (L.set p { b with wear := IntKind.i64.wrap (b.wear + w), who := ByteArray.empty })[p]? = some { b with wear := IntKind.i64.wrap (b.wear + w), who := ByteArray.empty } := List.getElem?_set_self hLp
          have hF2 : p * 4 + 4 ≤ (blks (L.set p { b with wear := IntKind.i64.wrap (b.wear + w), who := ByteArray.empty })).flatten.length := fl_le (blks_four _) (by rw [blks_len]; simpa using hLp)
          have hFc := fl_set1 (sz := 4) (k := 2) (v := .int .i64 (IntKind.i64.wrap (b.uses + 1))) (by decide) (blks_four _) (blks_get hb2)
          rw [show Blk.c ({ b with wear := IntKind.i64.wrap (b.wear + w), who := ByteArray.empty } : Blk) = [.int .i64 b.len, .int .i64 (IntKind.i64.wrap (b.wear + w)), .int .i64 b.uses, .str ByteArray.empty] from rfl] at hFc
          rw [show List.set [PV.int .i64 b.len, .int .i64 (IntKind.i64.wrap (b.wear + w)), .int .i64 b.uses, .str ByteArray.empty] 2 (.int .i64 (IntKind.i64.wrap (b.uses + 1))) = (retB w b).c from rfl, blks_set, List.set_set] at hFc
          have hb3 : (L.set p (retB w b))[p]? = some (retB w b) := List.getElem?_set_self hLp
          have hF3 : p * 4 + 4 ≤ (blks (L.set p (retB w b))).flatten.length := fl_le (blks_four _) (by rw [blks_len]; simpa using hLp)
          have hv1 : (blks (L.set p { b with who := ByteArray.empty })).flatten[p * 4 + 1]? = some (.int .i64 b.wear) := fl_get (blks_four _) (blks_get hb1) (by decide)
          have hv2 : (blks (L.set p { b with wear := IntKind.i64.wrap (b.wear + w), who := ByteArray.empty })).flatten[p * 4 + 2]? = some (.int .i64 b.uses) := fl_get (blks_four _) (blks_get hb2) (by decide)
          have hv3 : (blks (L.set p (retB w b))).flatten[p * 4 + 1]? = some (.int .i64 (retB w b).wear) := fl_get (blks_four _) (blks_get hb3) (by decide)
          have hv4 : (blks (L.set p (retB w b))).flatten[p * 4 + 2]? = some (.int .i64 (retB w b).uses) := fl_get (blks_four _) (blks_get hb3) (by decide)
          have hc' : CopF H.length 2 (F.set jj ⟨(blks (L.set p (retB w b))).flatten, 0, 0⟩) q most (L.set p (retB w b)) := CopF.put hq hkq hkj hjq hlj (by simp)
          generalize (blks (L.set p { b with who := ByteArray.empty })).flatten = X1 at hFa hFb hF1 hv1
          generalize (blks (L.set p { b with wear := IntKind.i64.wrap (b.wear + w), who := ByteArray.empty })).flatten = X2 at hFb hFc hF2 hv2
          generalize (blks (L.set p (retB w b))).flatten = X3 at hFc hF3 hv3 hv4 hc'
          simp -dsimp -implicitDefEqProofs only [go_sem, C_P, C_deep, reduceCtorEq, Nat.reduceAdd, Nat.reduceLeDiff, Nat.reduceLT, Nat.reduceEqDiff, Nat.reduceMul, Nat.reduceSub, Nat.reducePow, Int.reduceToNat, Int.reduceLE, Int.reduceLT, Int.reduceEq, hd, index_SV (k := .i64) sl_31 (mkS_SV (nats (heldI who l))) (nats_get hp) rfl, hq, hj', hll, hpl, hF0, hF1, hF2, hF3, hFa, hFb, hFc, hv1, hv2, hv3, hv4, List.getElem?_set, List.set_set, List.length_set, hlj, hjq, hjq.symm, show (0 : Int) ≤ (p : Int) from by omega]
          refine Br_intro (fun h4 => ?_) (fun h4 => ?_)
          · have ho : overB (retB w b) = true := by unfold overB; rw [show decide ((retB w b).wear > 100000) = true from h4]; rfl
            rw [if_pos ho] at hG
            rw [hE, ← hG, stkRes_bad (by decide)]
            simp -dsimp -implicitDefEqProofs only [go_sem, C_P, C_deep, reduceCtorEq, Nat.reduceAdd, Nat.reduceLeDiff, Nat.reduceLT, Nat.reduceEqDiff, Nat.reduceMul, Nat.reduceSub, Nat.reducePow, Int.reduceToNat, Int.reduceLE, Int.reduceLT, Int.reduceEq, h4, h1, List.getElem?_set, List.length_set, hl1, show ¬ jj = 1 by omega, show ¬ 1 = jj by omega]
          · simp -dsimp -implicitDefEqProofs only [go_sem, C_P, C_deep, reduceCtorEq, Nat.reduceAdd, Nat.reduceLeDiff, Nat.reduceLT, Nat.reduceEqDiff, Nat.reduceMul, Nat.reduceSub, Nat.reducePow, Int.reduceToNat, Int.reduceLE, Int.reduceLT, Int.reduceEq, h4, hv4, hF3, hlj, hjq, hjq.symm, List.getElem?_set]
            refine Br_intro (fun h5 => ?_) (fun h5 => ?_)
            · have ho : overB (retB w b) = true := by unfold overB; rw [show decide ((retB w b).uses > 1048576) = true from h5, Bool.or_true]
              rw [if_pos ho] at hG
              rw [hE, ← hG, stkRes_bad (by decide)]
              simp -dsimp -implicitDefEqProofs only [go_sem, C_P, C_deep, reduceCtorEq, Nat.reduceAdd, Nat.reduceLeDiff, Nat.reduceLT, Nat.reduceEqDiff, Nat.reduceMul, Nat.reduceSub, Nat.reducePow, Int.reduceToNat, Int.reduceLE, Int.reduceLT, Int.reduceEq, h1, List.getElem?_set, List.length_set, hl1, show ¬ jj = 1 by omega, show ¬ 1 = jj by omega]
            · have ho : ¬ overB (retB w b) = true := by unfold overB; rw [show decide ((retB w b).wear > 100000) = false from h4, show decide ((retB w b).uses > 1048576) = false from h5]; decide
              rw [if_neg ho] at hG
              have hil : i < 512 := by have := heldI_len (who := who) (l := l); omega
              simp -dsimp -implicitDefEqProofs only [go_sem, C_P, C_deep, reduceCtorEq, Nat.reduceAdd, Nat.reduceLeDiff, Nat.reduceLT, Nat.reduceEqDiff, Nat.reduceMul, Nat.reduceSub, Nat.reducePow, Int.reduceToNat, Int.reduceLE, Int.reduceLT, Int.reduceEq, wrap_succ (show i < 9223372036854775807 by omega)]
              exact ⟨_, L.set p (retB w b), hc', by simpa using hll, hG, by rw [List.getElem?_set_ne (by omega)]; exact h1, rfl⟩
        · clear hhe h1 hl1 hc hF
          rintro st ⟨F, L, hc, hll, hG, h1, hst⟩
          rw [hst]
          generalize gv st = x
          have hl1 : 1 < F.length := (List.getElem?_eq_some_iff.1 h1).1
          have hd : decide (((heldI who l).length : Int) < (heldI who l).length) = false := by simp
          rw [List.drop_length, retGo] at hG
          have hL : retL l who w = L := by unfold retL; rw [← hG]; rfl
          rw [hE, ← hG, hL, stkRes_ok]
          obtain ⟨sv', hq, hkq, hbo⟩ := id hc
          rcases hbo with ⟨rfl, hnil⟩ | ⟨jj, rfl, hkj, hjq, hj'⟩
          · exfalso
            have := heldI_len (who := who) (l := l)
            rw [← hll, hnil] at this
            simp at this
            exact h3' (by simpa using this)
          · have hne : L ≠ [] := by
              rintro rfl
              have := heldI_len (who := who) (l := l)
              simp at hll
              omega
            have hemp : L.isEmpty = false := by simpa using hne
            rw [hemp] at hq
            have hlj : jj < F.length := (List.getElem?_eq_some_iff.1 hj').1
            have hlq : q < F.length := (List.getElem?_eq_some_iff.1 hq).1
            have hr : ∀ G : List AObj, G[jj]? = some ⟨(blks L).flatten, 0, 0⟩ → reify (G :: H) H.length 4 (.sl H.length jj 0 0 L.length 4 false) = some (mkS (blks L)) := fun G hG => reify_blk hG rfl hne
            simp -dsimp -implicitDefEqProofs only [go_sem, C_P, C_deep, reduceCtorEq, Nat.reduceAdd, Nat.reduceLeDiff, Nat.reduceLT, Nat.reduceEqDiff, Nat.reduceMul, Nat.reduceSub, Nat.reducePow, Int.reduceToNat, Int.reduceLE, Int.reduceLT, Int.reduceEq, hd, hq, hj', h1, List.getElem?_set, List.length_set, hl1, hlq, hlj, hjq, hjq.symm, show ¬ jj = 1 by omega, show ¬ 1 = jj by omega, show ¬ q = 1 by omega, show ¬ 1 = q by omega, hr]
theorem ret27 {most sv l} {who : ByteArray} {w : Int} (hs : SV sv (blks l)) (hw : ∀ b ∈ l, b.who.size ≤ maxL) (hm : who.size ≤ maxL) (hn : l.length ≤ 512) : Pure C 27 [.agg [.int .i64 most, sv], .str who, .int .i64 w] (stkRes (retE most l who w) most (retL l who w)) := fun _ => ret27h (BV.of hs) hw hm hn

def I28 (l : List Blk) (most : Int) (sv : PV) (who : ByteArray) (w : Int) (H : Heap) (i : Nat) (st : St) : Prop :=
  ∃ (g : List AObj) (L : List Blk) (sv' : PV), SV sv' (blks L) ∧ (i ≠ 0 → sv' = mkS (blks L)) ∧ L.length = l.length ∧ retGo w L ((heldI who l).drop i) = retGo w l (heldI who l) ∧
    st = ⟨[.agg [.int .i64 most, sv], .str who, .int .i64 w, .ref H.length 0 0 0 2, gv st 4, gv st 5, .ref H.length 1 0 0 2, .int .i64 0, gv st 8, mkS (nats (heldI who l)), .int .i64 i, gv st 11, gv st 12, gv st 13, gv st 14, gv st 15, gv st 16, gv st 17, gv st 18, gv st 19, gv st 20, gv st 21, gv st 22, gv st 23, gv st 24, gv st 25, gv st 26, gv st 27, gv st 28, gv st 29, gv st 30, gv st 31, gv st 32, gv st 33, gv st 34, gv st 35, gv st 36, gv st 37, gv st 38, gv st 39, gv st 40, gv st 41, gv st 42, gv st 43, gv st 44, gv st 45, gv st 46, gv st 47, gv st 48, gv st 49, gv st 50, gv st 51, gv st 52, gv st 53, gv st 54, gv st 55, gv st 56, gv st 57, gv st 58, gv st 59, gv st 60, gv st 61, gv st 62, gv st 63, gv st 64, gv st 65, gv st 66, gv st 67, gv st 68, gv st 69, gv st 70], (⟨[.int .i64 most, sv'], 0, 0⟩ :: ⟨[.int .i64 0, .nils], 0, 0⟩ :: g) :: H, []⟩
set_option maxHeartbeats 2000000 in
set_option maxRecDepth 100000 in
theorem ret28 {most sv l} {who : ByteArray} {w : Int} (hs : SV sv (blks l)) (hw : ∀ b ∈ l, b.who.size ≤ maxL) (hm : who.size ≤ maxL) : Pure C 28 [.agg [.int .i64 most, sv], .str who, .int .i64 w] (stkRes (retE most l who w) most (retL l who w)) := by
  intro H
  refine WC_own (fn := Tryd.f28) Tryd.func28 rfl rfl rfl (Or.inl rfl) ?_; simp only [Tryd.f28, List.replicate, List.length_cons, List.length_nil, Nat.reduceSub, Nat.reduceAdd, List.cons_append, List.nil_append]
  have hdr := dr_28; simp only [drwF, Tryd.f28, drw, cond_true, cond_false, List.append_nil, List.nil_append, List.cons_append, List.map_cons, List.map_nil, List.cons.injEq, and_true] at hdr
  simp -dsimp -implicitDefEqProofs only [go_sem, C_P, C_deep, reduceCtorEq, Nat.reduceAdd, Nat.reduceLeDiff, Nat.reduceLT, Nat.reduceEqDiff, Nat.reduceMul, Nat.reduceSub, Nat.reducePow, Int.reduceToNat, Int.reduceLE, Int.reduceLT, Int.reduceEq, WCh_pure (named47 hs hw hm)]
  refine Br_intro (fun h => ?_) (fun h => ?_)
  · have h' : namedE most l who ≠ 0 := by simpa using h
    have hE : retE most l who w = namedE most l who := by unfold retE; rw [if_pos h']
    rw [stkRes_bad (by rw [hE]; exact h'), hE]
    simp -dsimp -implicitDefEqProofs only [go_sem, C_P, C_deep, reduceCtorEq, Nat.reduceAdd, Nat.reduceLeDiff, Nat.reduceLT, Nat.reduceEqDiff, Nat.reduceMul, Nat.reduceSub, Nat.reducePow, Int.reduceToNat, Int.reduceLE, Int.reduceLT, Int.reduceEq]
  · have h' : namedE most l who = 0 := by simpa using h
    have hn := chkS_len (namedE_chk h')
    simp -dsimp -implicitDefEqProofs only [go_sem, C_P, C_deep, reduceCtorEq, Nat.reduceAdd, Nat.reduceLeDiff, Nat.reduceLT, Nat.reduceEqDiff, Nat.reduceMul, Nat.reduceSub, Nat.reducePow, Int.reduceToNat, Int.reduceLE, Int.reduceLT, Int.reduceEq, WCh_pure (len51 _ _)]
    refine Br_intro (fun h2 => ?_) (fun h2 => ?_)
    · have hE : retE most l who w = 2 := by unfold retE; rw [if_neg (by simp [h']), if_pos (by simpa using h2)]
      rw [hE, stkRes_bad (by decide)]
      simp -dsimp -implicitDefEqProofs only [go_sem, C_P, C_deep, reduceCtorEq, Nat.reduceAdd, Nat.reduceLeDiff, Nat.reduceLT, Nat.reduceEqDiff, Nat.reduceMul, Nat.reduceSub, Nat.reducePow, Int.reduceToNat, Int.reduceLE, Int.reduceLT, Int.reduceEq]
    · have hin : inR_ w 0 100000 = true := by simpa using h2
      have hlh := len_SV sl_31 (mkS_SV (nats (heldI who l)))
      rw [nats_len] at hlh
      have hhe : Pure C 48 [.agg [.int .i64 most, sv], .str who] (mkS (nats (heldI who l))) := held48 who hs (by omega)
      simp -dsimp -implicitDefEqProofs only [go_sem, C_P, C_deep, reduceCtorEq, Nat.reduceAdd, Nat.reduceLeDiff, Nat.reduceLT, Nat.reduceEqDiff, Nat.reduceMul, Nat.reduceSub, Nat.reducePow, Int.reduceToNat, Int.reduceLE, Int.reduceLT, Int.reduceEq, WCh_pure hhe, hlh]
      refine Br_intro (fun h3 => ?_) (fun h3 => ?_)
      · have h3' : (heldI who l).length = 0 := by have := eq_of_beq h3; omega
        have hE : retE most l who w = 6 := by unfold retE; rw [if_neg (by simp [h']), if_neg (by simp [hin]), if_pos h3']
        rw [hE, stkRes_bad (by decide)]
        simp -dsimp -implicitDefEqProofs only [go_sem, C_P, C_deep, reduceCtorEq, Nat.reduceAdd, Nat.reduceLeDiff, Nat.reduceLT, Nat.reduceEqDiff, Nat.reduceMul, Nat.reduceSub, Nat.reducePow, Int.reduceToNat, Int.reduceLE, Int.reduceLT, Int.reduceEq]
      · have h3' : ¬ (heldI who l).length = 0 := by have := ne_of_beq_false h3; omega
        have hE : retE most l who w = match retGo w l (heldI who l) with | some _ => 0 | none => 11 := by unfold retE; rw [if_neg (by simp [h']), if_neg (by simp [hin]), if_neg h3'] <;> rfl
        simp -dsimp -implicitDefEqProofs only [go_sem, C_P, C_deep, reduceCtorEq, Nat.reduceAdd, Nat.reduceLeDiff, Nat.reduceLT, Nat.reduceEqDiff, Nat.reduceMul, Nat.reduceSub, Nat.reducePow, Int.reduceToNat, Int.reduceLE, Int.reduceLT, Int.reduceEq]
        refine WL_for (heldI who l).length (I28 l most sv who w H) ⟨[], l, sv, hs, fun h => absurd rfl h, rfl, rfl, rfl⟩ ?_ ?_
        · rintro i st hi ⟨g, L, sv', hs', h0, hll, hG, hst⟩
          rw [hst]
          generalize gv st = x
          have hd : decide ((i : Int) < (heldI who l).length) = true := by simp; omega
          obtain ⟨p, hp⟩ : ∃ p, (heldI who l)[i]? = some p := ⟨_, List.getElem?_eq_getElem hi⟩
          have hpl := heldI_mem (List.mem_of_getElem? hp)
          obtain ⟨b, hb⟩ : ∃ b, L[p]? = some b := ⟨_, List.getElem?_eq_getElem (by rw [hll]; exact hpl)⟩
          rw [drop_cons hp, retGo, hb] at hG
          simp only [] at hG
          have hLp : p < L.length := by omega
          have hbc : (blks L)[p]? = some [.int .i64 b.len, .int .i64 b.wear, .int .i64 b.uses, .str b.who] := blks_get hb
          have hwith : Pure C 55 [.agg [.int .i64 most, sv'], .int .i64 (p : Int), .agg [.int .i64 b.len, .int .i64 (IntKind.i64.wrap (b.wear + w)), .int .i64 (IntKind.i64.wrap (b.uses + 1)), .str { data := #[] }]] (.agg [.int .i64 most, mkS (blks (L.set p (retB w b)))]) := with55 (b := retB w b) hs' (by omega) hLp
          simp -dsimp -implicitDefEqProofs only [go_sem, C_P, C_deep, reduceCtorEq, Nat.reduceAdd, Nat.reduceLeDiff, Nat.reduceLT, Nat.reduceEqDiff, Nat.reduceMul, Nat.reduceSub, Nat.reducePow, Int.reduceToNat, Int.reduceLE, Int.reduceLT, Int.reduceEq, hlh, hd, ↓W_drawnL hdr.1, index_SV (k := .i64) sl_31 (mkS_SV (nats (heldI who l))) (nats_get hp) rfl, index_SV (k := .i64) sl_26 hs' hbc rfl]
          refine Br_intro (fun h4 => ?_) (fun h4 => ?_)
          · have ho : overB (retB w b) = true := by unfold overB; rw [show decide ((retB w b).wear > 100000) = true from h4]; rfl
            rw [if_pos ho] at hG
            rw [hE, ← hG, stkRes_bad (by decide)]
            simp -dsimp -implicitDefEqProofs only [go_sem, C_P, C_deep, reduceCtorEq, Nat.reduceAdd, Nat.reduceLeDiff, Nat.reduceLT, Nat.reduceEqDiff, Nat.reduceMul, Nat.reduceSub, Nat.reducePow, Int.reduceToNat, Int.reduceLE, Int.reduceLT, Int.reduceEq, h4]
          · simp -dsimp -implicitDefEqProofs only [go_sem, C_P, C_deep, reduceCtorEq, Nat.reduceAdd, Nat.reduceLeDiff, Nat.reduceLT, Nat.reduceEqDiff, Nat.reduceMul, Nat.reduceSub, Nat.reducePow, Int.reduceToNat, Int.reduceLE, Int.reduceLT, Int.reduceEq, h4]
            refine Br_intro (fun h5 => ?_) (fun h5 => ?_)
            · have ho : overB (retB w b) = true := by unfold overB; rw [show decide ((retB w b).uses > 1048576) = true from h5, Bool.or_true]
              rw [if_pos ho] at hG
              rw [hE, ← hG, stkRes_bad (by decide)]
              simp -dsimp -implicitDefEqProofs only [go_sem, C_P, C_deep, reduceCtorEq, Nat.reduceAdd, Nat.reduceLeDiff, Nat.reduceLT, Nat.reduceEqDiff, Nat.reduceMul, Nat.reduceSub, Nat.reducePow, Int.reduceToNat, Int.reduceLE, Int.reduceLT, Int.reduceEq]
            · have ho : ¬ overB (retB w b) = true := by unfold overB; rw [show decide ((retB w b).wear > 100000) = false from h4, show decide ((retB w b).uses > 1048576) = false from h5]; decide
              rw [if_neg ho] at hG
              have hil : i < 512 := by have := heldI_len (who := who) (l := l); omega
              simp -dsimp -implicitDefEqProofs only [go_sem, C_P, C_deep, reduceCtorEq, Nat.reduceAdd, Nat.reduceLeDiff, Nat.reduceLT, Nat.reduceEqDiff, Nat.reduceMul, Nat.reduceSub, Nat.reducePow, Int.reduceToNat, Int.reduceLE, Int.reduceLT, Int.reduceEq, ↓W_drawnL hdr.2, index_SV (k := .i64) sl_31 (mkS_SV (nats (heldI who l))) (nats_get hp) rfl, hs'.cells, hs'.tup, WCh_pure hwith, (mkS_SV (blks (L.set p (retB w b)))).cells, (mkS_SV (blks (L.set p (retB w b)))).tup, wrap_succ (show i < 9223372036854775807 by omega)]
              exact ⟨_, L.set p (retB w b), _, mkS_SV _, fun _ => rfl, by simpa using hll, hG, rfl⟩
        · rintro st ⟨g, L, sv', hs', h0, hll, hG, hst⟩
          rw [hst]
          generalize gv st = x
          have hd : decide (((heldI who l).length : Int) < (heldI who l).length) = false := by simp
          rw [List.drop_length, retGo] at hG
          have hL : retL l who w = L := by unfold retL; rw [← hG]; rfl
          rw [hE, ← hG, hL, stkRes_ok]
          have h0' := h0 h3'
          subst h0'
          simp -dsimp -implicitDefEqProofs only [go_sem, C_P, C_deep, reduceCtorEq, Nat.reduceAdd, Nat.reduceLeDiff, Nat.reduceLT, Nat.reduceEqDiff, Nat.reduceMul, Nat.reduceSub, Nat.reducePow, Int.reduceToNat, Int.reduceLE, Int.reduceLT, Int.reduceEq, hlh, hd, mkS_reify (k := 2) (blks_scal L)]
end Go.Proofs.YtbcmiddffckgmaaDoor.Am
