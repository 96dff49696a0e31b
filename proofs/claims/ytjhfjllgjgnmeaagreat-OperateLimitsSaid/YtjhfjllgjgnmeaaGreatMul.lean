/- Package operate: add where the kinds differ, multiply of rows; Bin at '+' and '*'. -/
import Derived.Test.YtjhfjllgjgnmeaaGreatORow
import Derived.LoopTactic
namespace Go.Proofs.YtjhfjllgjgnmeaaGreat
open Go.RowKit Go.Maps
attribute [local go_sem] World.cell?_alloc_some

set_option maxRecDepth 100000 in
set_option maxHeartbeats 3200000 in
/-- 'add' of a row and what is of another kind. -/
theorem add_diff {w : World} {τ : Tag} {hb : Nat} {H : PH} (h : HeapAt w τ hb H) (a b : V) (hw : H.row a = true) (hk : H.kind a ≠ H.kind b) :
    Calls Tryz.prog 69 #[.pointer (some ⟨hb, 0, Option.none⟩), a.val, b.val] w fun e w' => e = .returned (.tuple #[V.nul.val, (Ex.raise typeErr).val]) ∧ Below w.heap.size w w' := by
  obtain ⟨x4, x5, x6, x7, hB0⟩ := four w a b
  have h3' : (a.k == 3) = false := by rw [PH.row_k hw]; decide
  have hk' : (H.kind a == H.kind b) = false := by simpa using hk
  obtain ⟨⟨x4c0, x4c1, x4c2⟩, ⟨x4f0, x4f1, x4f2⟩, x4l⟩ := factsV x4
  obtain ⟨⟨x5c0, x5c1, x5c2⟩, ⟨x5f0, x5f1, x5f2⟩, x5l⟩ := factsV x5
  have h0 := h.below hB0
  go_enter Tryz.func69, Tryz.ntmps69
  go_wp2_with fail
  generalize ((((w.alloc (.cells #[.int .i64 a.k, .int .i64 a.n, .string a.s] 24)).alloc (.cells #[.int .i64 b.k, .int .i64 b.n, .string b.s] 24)).alloc (.cells #[.int .i64 0, .int .i64 0, .string ⟨#[]⟩] 24)).alloc (.cells #[.string ⟨#[]⟩, .int .i64 0, .int .i64 0, .string ⟨#[]⟩, .bool false] 33)) = w1 at *
  refine wp_region_M 13 [(0, true), (1, true), (2, false), (3, true), (4, true), (5, true), (7, true), (8, true), (6, false), (9, false), (10, true), (11, true), (12, true)] [] [] (fun _ => false) (by kernel_rfl) (by kernel_rfl) (by simp) (fun _ _ => rfl) ?_
  have hR := undrewR w1
  repeat
    first
    | refine M_skip rfl (by rfl) (fun _ _ _ h => h) ?_
    | refine M_pass rfl (by rfl) (fun _ _ => rfl) fun W hBW => ?_
      replace hR := btr hR hBW
      clear hBW
    | refine M_free rfl (by rfl) ?_
      apply Exists.intro
      refine ⟨fun W hW => ?_, fun _ _ _ h => h, ?_⟩
      focus
        have hq := hW.allF
        first | (go_simp; done) | (go_simp; with_reducible rfl)
    simp only [Act.put, List.setIfInBounds_toArray, List.set_cons_zero, List.set_cons_succ]
  refine M_call rfl (by rfl) (fun _ _ => rfl) fun W hBW hSW => ?_
  replace hR := btr hR hBW
  clear hBW
  refine ⟨_, _, _, by go_simp; try (repeat' apply And.intro) <;> rfl, orow_any (h0.below hR) a, ?_⟩
  clear hSW
  rintro e W ⟨rfl, hB⟩
  refine ⟨_, rfl, hB, ?_⟩
  replace hR := btr hR hB
  clear hB
  simp only [Act.put, List.setIfInBounds_toArray, List.set_cons_zero, List.set_cons_succ]
  rw [hw]
  repeat
    first
    | refine M_skip rfl (by rfl) (fun _ _ _ h => h) ?_
    | refine M_pass rfl (by rfl) (fun _ _ => rfl) fun W hBW => ?_
      replace hR := btr hR hBW
      clear hBW
    | refine M_free rfl (by rfl) ?_
      apply Exists.intro
      refine ⟨fun W hW => ?_, fun _ _ _ h => h, ?_⟩
      focus
        have hq := hW.allF
        first | (go_simp; done) | (go_simp; with_reducible rfl)
    simp only [Act.put, List.setIfInBounds_toArray, List.set_cons_zero, List.set_cons_succ]
  refine M_call rfl (by rfl) (fun _ _ => rfl) fun W hBW hSW => ?_
  replace hR := btr hR hBW
  clear hBW
  refine ⟨_, _, _, by go_simp; try (repeat' apply And.intro) <;> rfl, Kind_any (h0.below hR) a, ?_⟩
  clear hSW
  rintro e W ⟨rfl, hB⟩
  refine ⟨_, rfl, hB, ?_⟩
  replace hR := btr hR hB
  clear hB
  simp only [Act.put, List.setIfInBounds_toArray, List.set_cons_zero, List.set_cons_succ]
  repeat
    first
    | refine M_skip rfl (by rfl) (fun _ _ _ h => h) ?_
    | refine M_pass rfl (by rfl) (fun _ _ => rfl) fun W hBW => ?_
      replace hR := btr hR hBW
      clear hBW
    | refine M_free rfl (by rfl) ?_
      apply Exists.intro
      refine ⟨fun W hW => ?_, fun _ _ _ h => h, ?_⟩
      focus
        have hq := hW.allF
        first | (go_simp; done) | (go_simp; with_reducible rfl)
    simp only [Act.put, List.setIfInBounds_toArray, List.set_cons_zero, List.set_cons_succ]
  refine M_call rfl (by rfl) (fun _ _ => rfl) fun W hBW hSW => ?_
  replace hR := btr hR hBW
  clear hBW
  refine ⟨_, _, _, by go_simp; try (repeat' apply And.intro) <;> rfl, Kind_any (h0.below hR) b, ?_⟩
  clear hSW
  rintro e W ⟨rfl, hB⟩
  refine ⟨_, rfl, hB, ?_⟩
  replace hR := btr hR hB
  clear hB
  simp only [Act.put, List.setIfInBounds_toArray, List.set_cons_zero, List.set_cons_succ]
  repeat
    first
    | refine M_skip rfl (by rfl) (fun _ _ _ h => h) ?_
    | refine M_pass rfl (by rfl) (fun _ _ => rfl) fun W hBW => ?_
      replace hR := btr hR hBW
      clear hBW
    | refine M_free rfl (by rfl) ?_
      apply Exists.intro
      refine ⟨fun W hW => ?_, fun _ _ _ h => h, ?_⟩
      focus
        have hq := hW.allF
        first | (go_simp; done) | (go_simp; with_reducible rfl)
    simp only [Act.put, List.setIfInBounds_toArray, List.set_cons_zero, List.set_cons_succ]
  refine M_end0 fun w2 hBW hSW => ?_
  replace hR := btr hR hBW
  clear hBW
  simp only [List.drop_succ_cons, List.drop_zero]
  replace x6 := Has.bel x6 hR
  replace x7 := Has.bel x7 hR
  replace hB0 := btr hB0 hR
  clear h0 hR hSW x4 x5 h
  clear x4c0 x4c1 x4c2 x4f0 x4f1 x4f2 x4l x5c0 x5c1 x5c2 x5f0 x5f1 x5f2 x5l
  go_wp2_with fail
  refine (wrong_any _).mono ?_
  rintro e X2 ⟨rfl, hB⟩
  replace x6 := Has.bel x6 hB
  replace x7 := Has.bel x7 hB
  replace hB0 := btr hB0 hB
  clear hB
  obtain ⟨⟨x6c0, x6c1, x6c2⟩, ⟨x6f0, x6f1, x6f2⟩, x6l⟩ := factsV x6
  obtain ⟨⟨x7c0, x7c1, x7c2, x7c3, x7c4⟩, ⟨x7f0, x7f1, x7f2, x7f3, x7f4⟩, x7l⟩ := factsE x7
  go_wp2
  obtain ⟨f1, f2, f3⟩ := fin_VEg (w := w) (by omega) x6 x7 hB0 _ _ _ _ _ _ _ _
  exact ret_VE rfl rfl rfl rfl rfl f1 f2 rfl ⟨rfl, f3⟩

theorem int_bounds {n : Int} (h : (Lit.int .i64 n).wf = true) : -9223372036854775808 ≤ n ∧ n ≤ 9223372036854775807 := by
  simp [Lit.wf, IntKind.min, IntKind.max, IntKind.bits, IntKind.signed] at h
  omega

/-- How many times over. -/
def mulCount (l : List V) (n : Int) : Nat := if l.length = 0 then 0 else min n.toNat (4096 / l.length + 1)
def mulItems (l : List V) (n : Int) : List V := (List.replicate (mulCount l n) l).flatten
def mulRowS (H : PH) (a : V) (n : Int) : V × Ex × PH := freshS H (H.kind a) (mulItems (H.items a) n)

theorem rep_length (l : List V) (k : Nat) : (List.replicate k l).flatten.length = k * l.length := by simp
theorem rep_succ (l : List V) (k : Nat) : (List.replicate (k + 1) l).flatten = (List.replicate k l).flatten ++ l := by
  rw [List.replicate_succ', List.flatten_append]; simp
theorem rep_le (l : List V) (k : Nat) (n : Int) (h : k ≤ mulCount l n) : k * l.length ≤ 4096 + l.length := by
  unfold mulCount at h
  split at h
  · have : k = 0 := by omega
    subst this; simp
  · have h1 : k ≤ 4096 / l.length + 1 := by omega
    have h2 := Nat.mul_le_mul_right l.length h1
    have h3 := Nat.div_mul_le_self 4096 l.length
    rw [Nat.add_mul] at h2
    omega
theorem rep_go (l : List V) (k : Nat) (n : Int) (h : k < mulCount l n) : 0 < n - k ∧ 0 < l.length ∧ k * l.length ≤ 4096 := by
  unfold mulCount at h
  split at h
  · omega
  · rename_i h0
    have h1 : k ≤ 4096 / l.length := by omega
    have h2 := Nat.mul_le_mul_right l.length h1
    have h3 := Nat.div_mul_le_self 4096 l.length
    exact ⟨by omega, by omega, by omega⟩
theorem rep_stop (l : List V) (n : Int) : n - mulCount l n ≤ 0 ∨ l.length = 0 ∨ 4096 < mulCount l n * l.length := by
  by_cases h0 : l.length = 0
  · exact .inr (.inl h0)
  · by_cases h1 : n - mulCount l n ≤ 0
    · exact .inl h1
    · refine .inr (.inr ?_)
      have h2 : mulCount l n = 4096 / l.length + 1 := by
        unfold mulCount at h1 ⊢
        rw [if_neg h0] at h1 ⊢
        omega
      rw [h2]
      have h3 := Nat.div_add_mod 4096 l.length
      have h4 := Nat.mod_lt 4096 (show 0 < l.length by omega)
      rw [Nat.add_mul, Nat.one_mul, Nat.mul_comm (4096 / l.length)]
      omega

set_option maxRecDepth 100000 in
set_option maxHeartbeats 3200000 in
/-- 'multiply' of a row and an int, either way about. -/
theorem mul_rows {w : World} {τ : Tag} {hb : Nat} {H : PH} (h : HeapAt w τ hb H) (a b : V) (hw : H.row a = true) (hb2 : b.k = 2) (hbig : H.room) (hla : (H.items a).length ≤ 4096) (s : Bool) :
    Calls Tryz.prog 70 #[.pointer (some ⟨hb, 0, Option.none⟩), (if s then b else a).val, (if s then a else b).val] w (OpPost w τ hb (mulRowS H a b.n).1 (mulRowS H a b.n).2.1 (mulRowS H a b.n).2.2) := by
  have hnew := own_new h
  have q4 := hnew w.heap.size (Nat.le_refl _)
  have q5 := hnew (w.heap.size + 1) (by omega)
  have q6 := hnew (w.heap.size + 1 + 1) (by omega)
  have q7 := hnew (w.heap.size + 1 + 1 + 1) (by omega)
  have e1 : (b.k == 2) = true := by rw [hb2]; rfl
  have e1' : (b.k != 2) = false := by rw [hb2]; rfl
  have e2 : (a.k == 2) = false := by rw [PH.row_k hw]; rfl
  have e3 : (a.k == 3) = false := by rw [PH.row_k hw]; rfl
  clear hb2
  have hB0 := (four w a b).bel
  have h0 := h.below hB0
  obtain ⟨x4, x5, x6, x7, _⟩ := four w a b
  have HA := Lib.hid hla
  clear hla
  cases s
  all_goals
    simp only [Bool.false_eq_true, if_false, if_true]
    go_enter Tryz.func70, Tryz.ntmps70
    go_wp2_with fail
    generalize ((((w.alloc (.cells #[.int .i64 a.k, .int .i64 a.n, .string a.s] 24)).alloc (.cells #[.int .i64 b.k, .int .i64 b.n, .string b.s] 24)).alloc (.cells #[.int .i64 0, .int .i64 0, .string ⟨#[]⟩] 24)).alloc (.cells #[.string ⟨#[]⟩, .int .i64 0, .int .i64 0, .string ⟨#[]⟩, .bool false] 33)) = w1 at *
    refine (orow_any h0 a).mono ?_
    rintro e w2 ⟨rfl, hB⟩
    rw [hw]
    replace x4 := Has.bel x4 hB
    replace x5 := Has.bel x5 hB
    replace x6 := Has.bel x6 hB
    replace x7 := Has.bel x7 hB
    replace hB0 := btr hB0 hB
    replace h0 := h.below hB0
    clear hB
    obtain ⟨⟨x4c0, x4c1, x4c2⟩, ⟨x4f0, x4f1, x4f2⟩, x4l⟩ := factsV x4
    obtain ⟨⟨x5c0, x5c1, x5c2⟩, ⟨x5f0, x5f1, x5f2⟩, x5l⟩ := factsV x5
    go_wp2_with fail
    refine (Items_any h0 a).mono ?_
    rintro e w3 ⟨va, rfl, hva, hB⟩
    replace x4 := Has.bel x4 hB
    replace x5 := Has.bel x5 hB
    replace x6 := Has.bel x6 hB
    replace x7 := Has.bel x7 hB
    clear x4c0 x4c1 x4c2 x4f0 x4f1 x4f2 x4l x5c0 x5c1 x5c2 x5f0 x5f1 x5f2 x5l
    replace hB0 := btr hB0 hB
    replace h0 := h.below hB0
    clear hB
    obtain ⟨⟨x4c0, x4c1, x4c2⟩, ⟨x4f0, x4f1, x4f2⟩, x4l⟩ := factsV x4
    obtain ⟨⟨x5c0, x5c1, x5c2⟩, ⟨x5f0, x5f1, x5f2⟩, x5l⟩ := factsV x5
    obtain ⟨aa, ca, rfl⟩ := ownsRow_slice hva
    have hvr := RowV.of_owns (ownsRow_base hva (fun _ _ => Nat.zero_le _))
    go_wp2
    go_loopw [9, 10] (fun o n wr => ∃ (k : Nat) (L : List V), L = (List.replicate k (H.items a)).flatten ∧ k ≤ mulCount (H.items a) b.n ∧ n = .int .i64 (b.n - k) ∧ wr.ownsRow w3.heap.size 24 3 o L.length (flat L) ∧ Below w3.heap.size w3 wr) (fun _ n _ => ((mulCount (H.items a) b.n : Int) + intOf n - b.n).toNat)
    case atStart => exact ⟨0, [], by simp, Nat.zero_le _, by simp, World.ownsRow_nil _ _ _ _, b0 _⟩
    case round =>
      obtain ⟨k, L, hL, hk, rfl, ho, hBr⟩ := hrel
      have hLl : L.length = k * (H.items a).length := by rw [hL, rep_length]
      have hLb : L.length ≤ 8192 := by have := rep_le _ _ _ hk; have := HA.out; omega
      have HL := Lib.hid hL
      have HLl := Lib.hid hLl
      have hbn := int_bounds b.hn
      obtain ⟨ao, co, rfl⟩ := ownsRow_slice ho
      clear hL hLl
      by_cases hlt : k < mulCount (H.items a) b.n
      · obtain ⟨g1, g2, g3⟩ := rep_go _ _ _ hlt
        rw [← HLl.out] at g3
        have hwrap : IntKind.i64.wrap (b.n - ↑k - 1) = b.n - ↑k - 1 := IntWalk.i64_in _ (by omega)
        have HB := Lib.hid hbn
        have hk1 : k + 1 ≤ mulCount (H.items a) b.n := hlt
        clear hbn hlt hk
        have hsrc := hvr.below hBr (fun b' hb' => owns_lt hva hb')
        have g4 : (L.length : Int) ≤ 4096 := by omega
        go_wp2_with (at_builtin; refine wpList_app rfl _ _ rfl rfl ho rfl hsrc (by have := HA.out; omega) hBr.size ?_; intro v' w4 ho4 hg4)
        go_roundw
        case rel => exact ⟨k + 1, L ++ H.items a, by rw [HL.out, rep_succ], hk1, by go_num, ho4, hBr.grown hg4 hBr.size (fun j hj => owns_base ho hj)⟩
        case measure => simp [intOf]; omega
      · obtain rfl : k = mulCount (H.items a) b.n := by omega
        have hst := rep_stop (H.items a) b.n
        rw [← HLl.out] at hst
        obtain rfl : L = mulItems (H.items a) b.n := HL.out
        clear hlt hk
        have HB := Lib.hid hbn
        clear hbn
        have hB1 := btr hB0 hBr
        replace x4 := Has.bel x4 hBr
        replace x5 := Has.bel x5 hBr
        replace x6 := Has.bel x6 hBr
        replace x7 := Has.bel x7 hBr
        have h1 := h.below hB1
        have hLr := RowV.of_owns (ownsRow_base ho (fun _ _ => Nat.zero_le _))
        clear hB0 h0 hBr hva hvr ho
        clear x4c0 x4c1 x4c2 x4f0 x4f1 x4f2 x4l x5c0 x5c1 x5c2 x5f0 x5f1 x5f2 x5l
        obtain ⟨⟨x4c0, x4c1, x4c2⟩, ⟨x4f0, x4f1, x4f2⟩, x4l⟩ := factsV x4
        obtain ⟨⟨x5c0, x5c1, x5c2⟩, ⟨x5f0, x5f1, x5f2⟩, x5l⟩ := factsV x5
        have hcase : (¬ 0 < b.n - ↑(mulCount (H.items a) b.n)) ∨ (0 < b.n - ↑(mulCount (H.items a) b.n) ∧ ¬ 0 < (H.items a).length) ∨ (0 < b.n - ↑(mulCount (H.items a) b.n) ∧ 0 < (H.items a).length ∧ ¬ (mulItems (H.items a) b.n).length ≤ 4096) := by omega
        clear hst
        rcases hcase with p1 | ⟨p1, p2⟩ | ⟨p1, p2, p3⟩
        all_goals
          go_wp2_with fail
          refine (Kind_any h1 a).mono ?_
          rintro e w5 ⟨rfl, hB⟩
          have hLr5 := hLr.chg (ρ := fun _ => false) (Chg.of_below hB) (fun _ _ => rfl)
          have hB5 := btr hB1 hB
          replace x6 := Has.bel x6 hB
          replace x7 := Has.bel x7 hB
          clear x4 x5 hLr h1 hB1 hB
          clear x4c0 x4c1 x4c2 x4f0 x4f1 x4f2 x4l x5c0 x5c1 x5c2 x5f0 x5f1 x5f2 x5l
          have h5 := h.below hB5
          have s5 := hB5.size
          go_wp2_with fail
          refine (fresh_any h5 (H.kind a) _ (mulItems (H.items a) b.n) (PH.row_kind hw) hLr5 hbig).mono ?_
          rintro e w6 ⟨rfl, τ', hH', hC', hT'⟩
          rw [show freshS H (H.kind a) (mulItems (H.items a) b.n) = mulRowS H a b.n from rfl] at *
          have l6 := x6.lt
          have l7 := x7.lt
          replace x6 := x6.chg hC' q6
          replace x7 := x7.chg hC' q7
          have hT2 : TagOn w τ τ' := fun b' hb' => hT' b' (by omega)
          have hC2 := (Chg.of_below (ρ := own τ) hB5).trans hC' (fun _ _ h => h)
          have p6 : own τ' (w.heap.size + 1 + 1) = false := by rw [own, hT' _ l6]; exact q6
          have p7 : own τ' (w.heap.size + 1 + 1 + 1) = false := by rw [own, hT' _ l7]; exact q7
          clear hnew h hT' hC' h5 hLr5
          obtain ⟨⟨x6c0, x6c1, x6c2⟩, ⟨x6f0, x6f1, x6f2⟩, x6l⟩ := factsV x6
          obtain ⟨⟨x7c0, x7c1, x7c2, x7c3, x7c4⟩, ⟨x7f0, x7f1, x7f2, x7f3, x7f4⟩, x7l⟩ := factsE x7
          go_wp2
          obtain ⟨f1, f2, f3⟩ := fin_op (by omega) x6 x7 hC2 hH' hT2 (by omega) (by omega) p6 p7 _ _ _ _ _ _ _ _
          exact ret_VE rfl rfl rfl rfl rfl f1 f2 rfl ⟨rfl, f3⟩

theorem mul_rowsL {w : World} {τ : Tag} {hb : Nat} {H : PH} (h : HeapAt w τ hb H) (a b : V) (hw : H.row a = true) (hb2 : b.k = 2) (hbig : H.room) (hla : (H.items a).length ≤ 4096) :
    Calls Tryz.prog 70 #[.pointer (some ⟨hb, 0, Option.none⟩), a.val, b.val] w (OpPost w τ hb (mulRowS H a b.n).1 (mulRowS H a b.n).2.1 (mulRowS H a b.n).2.2) := mul_rows h a b hw hb2 hbig hla false
theorem mul_rowsR {w : World} {τ : Tag} {hb : Nat} {H : PH} (h : HeapAt w τ hb H) (a b : V) (hw : H.row a = true) (hb2 : b.k = 2) (hbig : H.room) (hla : (H.items a).length ≤ 4096) :
    Calls Tryz.prog 70 #[.pointer (some ⟨hb, 0, Option.none⟩), b.val, a.val] w (OpPost w τ hb (mulRowS H a b.n).1 (mulRowS H a b.n).2.1 (mulRowS H a b.n).2.2) := mul_rows h a b hw hb2 hbig hla true

attribute [local go_sem] eqFunc

set_option maxRecDepth 100000 in
set_option maxHeartbeats 3200000 in
/-- 'Bin' at '+' and '*', not of two ints: what 'add', 'multiply' tells. -/
theorem Bin_does {w : World} {τ : Tag} {hb : Nat} {H H' : PH} {v : V} {x : Ex} (h : HeapAt w τ hb H) (a b : V) (op : ByteArray) (f : FuncId) (hop : op = ⟨#[43]⟩ ∧ f = 69 ∨ op = ⟨#[42]⟩ ∧ f = 70) (hn : ¬ (a.k = 2 ∧ b.k = 2))
    (hdo : ∀ W, HeapAt W τ hb H → Calls Tryz.prog f #[.pointer (some ⟨hb, 0, Option.none⟩), a.val, b.val] W (OpPost W τ hb v x H')) :
    Calls Tryz.prog 19 #[.pointer (some ⟨hb, 0, Option.none⟩), .string op, a.val, b.val] w (OpPost w τ hb v x H') := by
  have hmm := @run_makeMap Tryz.prog
  have F0 := (four w a b).below (bal (b0 _) (.map #[] 0))
  have hM0 := MapAt.new Tryz.prog 9 ((((w.alloc (.cells #[.int .i64 a.k, .int .i64 a.n, .string a.s] 24)).alloc (.cells #[.int .i64 b.k, .int .i64 b.n, .string b.s] 24)).alloc (.cells #[.int .i64 0, .int .i64 0, .string ⟨#[]⟩] 24)).alloc (.cells #[.string ⟨#[]⟩, .int .i64 0, .int .i64 0, .string ⟨#[]⟩, .bool false] 33))
  simp only [World.size_alloc] at hM0
  obtain ⟨l1, k1⟩ := keyOfS (s := ⟨#[43]⟩) (by decide)
  obtain ⟨l2, k2⟩ := keyOfS (s := ⟨#[42]⟩) (by decide)
  have hz : ∀ W, (zeroValue 44).run Tryz.prog W = .ok .nilFunc W := fun W => by kernel_rfl
  have hnew := own_new h
  have q6 := hnew (w.heap.size + 1 + 1) (by omega)
  have q7 := hnew (w.heap.size + 1 + 1 + 1) (by omega)
  have hcase : (a.k == 2) = false ∨ (a.k == 2) = true ∧ (b.k == 2) = false := by
    by_cases e : a.k = 2
    · exact .inr ⟨by simpa using e, by simpa using fun e' => hn ⟨e, e'⟩⟩
    · exact .inl (by simpa using e)
  clear hn
  rcases hop with ⟨rfl, rfl⟩ | ⟨rfl, rfl⟩
  all_goals
    rcases hcase with hka | ⟨hka, hkb⟩
    all_goals
      go_enter Tryz.func19, Tryz.ntmps19
      go_wp2_with (refine wpList_insert_at _ rfl _ _ _ 104 rfl 9 44 keyedS Tryz.underlying104 _ _ _ rfl hM0 _ _ _ rfl rfl k1 ?_)
      intro W1 hM1 hg1
      have F1 := F0.grown hg1 (by omega)
      clear hM0 F0 hg1
      go_wp2_with (refine wpList_insert_at _ rfl _ _ _ 104 rfl 9 44 keyedS Tryz.underlying104 _ _ _ rfl hM1 _ _ _ rfl rfl k2 ?_)
      intro W2 hM2 hg2
      have F2 := F1.grown hg2 (by omega)
      clear hM1 F1 hg2
      have hlk1 := hM2.lookup false keyedS Tryz.underlying104 (hz W2) (x := .string ⟨#[43]⟩) k1
      have hlk2 := hM2.lookup false keyedS Tryz.underlying104 (hz W2) (x := .string ⟨#[42]⟩) k2
      simp only [Value.string.injEq, ByteArray.mk.injEq, show ((#[43] : Array UInt8) = #[42]) = False by decide, if_false, if_true, Option.getD_some, Bool.false_eq_true] at hlk1 hlk2
      have h2 := h.below F2.bel
      obtain ⟨⟨a0, a1, a2⟩, _, al⟩ := factsV F2.ba
      obtain ⟨⟨c0, c1, c2⟩, _, bl⟩ := factsV F2.bb
      clear hM2 k1 k2 hz
      go_wp2_with fail
      refine (hdo _ h2).mono ?_
      rintro e X2 ⟨rfl, τ', hH', hC', hT'⟩
      have s2 := F2.bel.size
      have l7 := F2.lt
      have x6 : Has X2 (w.heap.size + 1 + 1) _ _ := Has.chg F2.rv hC' q6
      have x7 : Has X2 (w.heap.size + 1 + 1 + 1) _ _ := Has.chg F2.re hC' q7
      have hT2 : TagOn w τ τ' := fun b' hb' => hT' b' (by omega)
      have hC2 := (Chg.of_below (ρ := own τ) F2.bel).trans hC' (fun _ _ h => h)
      have p6 : own τ' (w.heap.size + 1 + 1) = false := by rw [own, hT' _ (by omega)]; exact q6
      have p7 : own τ' (w.heap.size + 1 + 1 + 1) = false := by rw [own, hT' _ l7]; exact q7
      clear hnew hdo h hT' hC' F2 a0 a1 a2 c0 c1 c2 al bl hlk1 hlk2 h2
      obtain ⟨⟨x6c0, x6c1, x6c2⟩, ⟨x6f0, x6f1, x6f2⟩, x6l⟩ := factsV x6
      obtain ⟨⟨x7c0, x7c1, x7c2, x7c3, x7c4⟩, ⟨x7f0, x7f1, x7f2, x7f3, x7f4⟩, x7l⟩ := factsE x7
      go_wp2
      obtain ⟨f1, f2, f3⟩ := fin_op (by omega) x6 x7 hC2 hH' hT2 (by omega) (by omega) p6 p7 _ _ _ _ _ _ _ _
      exact ret_VE rfl rfl rfl rfl rfl f1 f2 rfl ⟨rfl, f3⟩

end Go.Proofs.YtjhfjllgjgnmeaaGreat
