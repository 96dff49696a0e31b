/- Package operate: add, Bin. -/
import Derived.Test.YtjhfjllgjgnmeaaGreatCmp
namespace Go.Proofs.YtjhfjllgjgnmeaaGreat
open Go.RowKit Go.Maps
attribute [local go_sem] World.cell?_alloc_some

set_option maxRecDepth 100000 in
set_option maxHeartbeats 1600000 in
/-- 'add' where the first one is no str, list or tuple. -/
theorem add_wrong {w : World} {τ : Tag} {hb : Nat} {H : PH} (h : HeapAt w τ hb H) (a b : V) (hw : H.row a = false) (h3 : a.k ≠ 3) :
    Calls Tryz.prog 69 #[.pointer (some ⟨hb, 0, Option.none⟩), a.val, b.val] w fun e w' => e = .returned (.tuple #[V.nul.val, (Ex.raise typeErr).val]) ∧ Below w.heap.size w w' := by
  have F0 := four w a b
  have h3' : (a.k == 3) = false := by simpa using h3
  obtain ⟨⟨a0, a1, a2⟩, _, al⟩ := factsV F0.ba
  have h0 := h.below F0.bel
  go_enter Tryz.func69, Tryz.ntmps69
  go_wp2_with fail
  generalize ((((w.alloc (.cells #[.int .i64 a.k, .int .i64 a.n, .string a.s] 24)).alloc (.cells #[.int .i64 b.k, .int .i64 b.n, .string b.s] 24)).alloc (.cells #[.int .i64 0, .int .i64 0, .string ⟨#[]⟩] 24)).alloc (.cells #[.string ⟨#[]⟩, .int .i64 0, .int .i64 0, .string ⟨#[]⟩, .bool false] 33)) = w1 at F0 a0 a1 a2 al h0 ⊢
  have d1 : ∀ W, Chg (fun _ => false) w1.drew W → W.cell? ⟨w.heap.size, 0, Option.none⟩ = some (.int .i64 a.k) ∧ W.cell? ⟨w.heap.size, 1, Option.none⟩ = some (.int .i64 a.n) ∧ W.cell? ⟨w.heap.size, 2, Option.none⟩ = some (.string a.s) := fun W hW => ⟨(hW.cell al rfl).trans a0, (hW.cell al rfl).trans a1, (hW.cell al rfl).trans a2⟩
  refine wp_region_M 13 [(0, true), (1, true), (2, false), (3, true), (4, true), (5, true), (7, true), (8, true), (6, false), (9, false), (10, true), (11, true), (12, true)] [] [] (fun _ => false) (by kernel_rfl) (by kernel_rfl) (by simp) (fun _ _ => rfl) ?_
  iterate 2
    refine M_free rfl (by rfl) ?_
    apply Exists.intro
    refine ⟨fun W hW => ?_, ?_, ?_⟩
    · obtain ⟨x2, x3, x4⟩ := d1 W hW
      first | (go_simp; done) | (go_simp; with_reducible rfl)
    · exact fun _ _ _ h => h
    simp only [Act.put, List.setIfInBounds_toArray, List.set_cons_zero, List.set_cons_succ]
  refine M_call rfl (by rfl) (fun _ _ => rfl) fun W hBW hSW => ?_
  have hBW' : Below w1.heap.size w1 W := ⟨hBW.os, hBW.tape, hBW.output, hBW.size, hBW.block⟩
  refine ⟨_, _, _, by go_simp; try rfl, orow_any (h0.below hBW') a, ?_⟩
  rintro e W2 ⟨rfl, hB2⟩
  refine ⟨_, rfl, hB2, ?_⟩
  rw [hw]
  simp only [Act.put, List.setIfInBounds_toArray, List.set_cons_zero, List.set_cons_succ]
  refine M_free rfl (by rfl) ?_
  apply Exists.intro
  refine ⟨fun W hW => ?_, ?_, ?_⟩
  · first | (go_simp; done) | (go_simp; with_reducible rfl)
  · exact fun _ _ _ h => h
  simp only [Act.put, List.setIfInBounds_toArray, List.set_cons_zero, List.set_cons_succ]
  iterate 4
    refine M_skip rfl (by rfl) (fun _ _ _ h => h) ?_
    simp only [Act.put, List.setIfInBounds_toArray, List.set_cons_zero, List.set_cons_succ]
  iterate 2
    refine M_pass rfl (by rfl) (fun _ _ => rfl) fun W hW => ?_
    simp only [Act.put, List.setIfInBounds_toArray, List.set_cons_zero, List.set_cons_succ]
  refine M_skip rfl (by rfl) (fun _ _ _ h => h) ?_
  simp only [Act.put, List.setIfInBounds_toArray, List.set_cons_zero, List.set_cons_succ]
  iterate 2
    refine M_free rfl (by rfl) ?_
    apply Exists.intro
    refine ⟨fun W hW => ?_, ?_, ?_⟩
    · first | (go_simp; done) | (go_simp; with_reducible rfl)
    · exact fun _ _ _ h => h
    simp only [Act.put, List.setIfInBounds_toArray, List.set_cons_zero, List.set_cons_succ]
  refine M_end0 fun W9 hB9 hS9 => ?_
  have hB79 : Below w1.heap.size w1 W9 := ⟨hS9.os, hS9.tape, hS9.output, hS9.size, fun j hj => hS9.block j hj rfl⟩
  simp only [List.drop_succ_cons, List.drop_zero]
  have F9 := F0.below hB79
  clear a0 a1 a2 al h0 h d1 hSW hBW hBW' hB2 hS9 hB9 hB79 F0
  go_wp2_with fail
  refine (wrong_any _).mono ?_
  rintro e X2 ⟨rfl, hB⟩
  have F12 := F9.below hB
  clear hB
  obtain ⟨⟨v0, v1, v2⟩, ⟨m0, m1, m2⟩, vl⟩ := factsV F12.rv
  obtain ⟨⟨e0, e1, e2, e3, e4⟩, ⟨n0, n1, n2, n3, n4⟩, el⟩ := factsE F12.re
  go_wp2
  obtain ⟨f1, f2, f3⟩ := fin_VEg (w := w) (by omega) F12.rv F12.re F12.bel _ _ _ _ _ _ _ _
  exact ret_VE rfl rfl rfl rfl rfl f1 f2 rfl ⟨rfl, f3⟩

theorem eqFuncIn (d : Nat) (W : World) (f : Fn) (fs bd : Array Value) : (Op.equalIn (d + 1) 44 (.func f fs bd) .nilFunc).run Tryz.prog W = .ok false W := by
  simp [Op.equalIn, run_underlying Tryz.underlying44]

theorem eqFunc (W : World) (f : Fn) (fs bd : Array Value) : (binOp .eql 44 (.func f fs bd) .nilFunc).run Tryz.prog W = .ok (.bool false) W := by
  simp only [binOp]
  simp [Op.equal, Op.maxDepth, eqFuncIn 9999 W f fs bd]

attribute [local go_sem] eqFunc

set_option maxRecDepth 100000 in
set_option maxHeartbeats 1600000 in
/-- '+' where the first one is no int, str, list or tuple, or the second one no int. -/
theorem Bin_plus_wrong {w : World} {τ : Tag} {hb : Nat} {H : PH} (h : HeapAt w τ hb H) (a b : V) (hw : H.row a = false) (h3 : a.k ≠ 3) (hb2 : b.k ≠ 2) :
    Calls Tryz.prog 19 #[.pointer (some ⟨hb, 0, Option.none⟩), .string ⟨#[43]⟩, a.val, b.val] w fun e w' => e = .returned (.tuple #[V.nul.val, (Ex.raise typeErr).val]) ∧ Below w.heap.size w w' := by
  have hmm := @run_makeMap Tryz.prog
  have F0 := (four w a b).below (bal (b0 _) (.map #[] 0))
  have hM0 := MapAt.new Tryz.prog 9 ((((w.alloc (.cells #[.int .i64 a.k, .int .i64 a.n, .string a.s] 24)).alloc (.cells #[.int .i64 b.k, .int .i64 b.n, .string b.s] 24)).alloc (.cells #[.int .i64 0, .int .i64 0, .string ⟨#[]⟩] 24)).alloc (.cells #[.string ⟨#[]⟩, .int .i64 0, .int .i64 0, .string ⟨#[]⟩, .bool false] 33))
  simp only [World.size_alloc] at hM0
  have hb2' : (b.k == 2) = false := by simpa using hb2
  obtain ⟨l1, k1⟩ := keyOfS (s := ⟨#[43]⟩) (by decide)
  obtain ⟨l2, k2⟩ := keyOfS (s := ⟨#[42]⟩) (by decide)
  have hz : ∀ W, (zeroValue 44).run Tryz.prog W = .ok .nilFunc W := fun W => by kernel_rfl
  cases hka : (a.k == 2)
  all_goals
    go_enter Tryz.func19, Tryz.ntmps19
    go_wp2_with (refine wpList_insert_at _ rfl _ _ _ 104 rfl 9 44 keyedS Tryz.underlying104 _ _ _ rfl hM0 _ _ _ rfl rfl k1 ?_)
    intro W1 hM1 hg1
    have F1 := F0.grown hg1 (by omega)
    clear hM0 F0 hg1
    go_wp2_with (refine wpList_insert_at _ rfl _ _ _ 104 rfl 9 44 keyedS Tryz.underlying104 _ _ _ rfl hM1 _ _ _ rfl rfl k2 ?_)
    intro W2 hM2 hg2
    have F2 := F1.grown hg2 (by omega)
    clear hM1 F1 hg2
    have hlk := hM2.lookup false keyedS Tryz.underlying104 (hz W2) (x := .string ⟨#[43]⟩) k1
    simp only [Value.string.injEq, ByteArray.mk.injEq, show ((#[43] : Array UInt8) = #[42]) = False by decide, if_false, if_true, Option.getD_some, Bool.false_eq_true] at hlk
    have h2 := h.below F2.bel
    obtain ⟨⟨a0, a1, a2⟩, _, al⟩ := factsV F2.ba
    obtain ⟨⟨c0, c1, c2⟩, _, bl⟩ := factsV F2.bb
    clear hM2 k1 k2 hz
    go_wp2_with fail
    refine (add_wrong h2 a b hw h3).mono ?_
    rintro e X2 ⟨rfl, hB⟩
    have F12 := F2.below hB
    clear hB a0 a1 a2 c0 c1 c2 al bl hlk h2
    obtain ⟨⟨v0, v1, v2⟩, ⟨m0, m1, m2⟩, vl⟩ := factsV F12.rv
    obtain ⟨⟨e0, e1, e2, e3, e4⟩, ⟨n0, n1, n2, n3, n4⟩, el⟩ := factsE F12.re
    go_wp2
    obtain ⟨f1, f2, f3⟩ := fin_VEg (w := w) (by omega) F12.rv F12.re F12.bel _ _ _ _ _ _ _ _
    exact ret_VE rfl rfl rfl rfl rfl f1 f2 rfl ⟨rfl, f3⟩

end Go.Proofs.YtjhfjllgjgnmeaaGreat
