/- Package operate: one, same, Same. -/
import Derived.Test.YtjhfjllgjgnmeaaGreatOp
namespace Go.Proofs.YtjhfjllgjgnmeaaGreat
open Go.RowKit Go.Maps
attribute [local go_sem] World.cell?_alloc_some

/-- Are they the same one? -/
def oneS (H : PH) (a b : V) : Bool := if H.kind a = 0 ∧ H.kind b = 0 then decide (a = b) else decide (H.kind a ≠ 0 ∧ H.kind b ≠ 0 ∧ a.n = b.n)

theorem two_boxes (w : World) (a b : V) : ((w.alloc (.cells #[.int .i64 a.k, .int .i64 a.n, .string a.s] 24)).alloc (.cells #[.int .i64 b.k, .int .i64 b.n, .string b.s] 24)).heap[w.heap.size]? = some (.cells #[.int .i64 a.k, .int .i64 a.n, .string a.s] 24 (0, 0)) ∧
    ((w.alloc (.cells #[.int .i64 a.k, .int .i64 a.n, .string a.s] 24)).alloc (.cells #[.int .i64 b.k, .int .i64 b.n, .string b.s] 24)).heap[w.heap.size + 1]? = some (.cells #[.int .i64 b.k, .int .i64 b.n, .string b.s] 24 (0, 0)) := by
  refine ⟨?_, ?_⟩
  · rw [Below.heap_alloc _ _ _ (by simp)]
    exact (MapKept.heap_alloc w _).1
  · have := (MapKept.heap_alloc (w.alloc (.cells #[.int .i64 a.k, .int .i64 a.n, .string a.s] 24)) (.cells #[.int .i64 b.k, .int .i64 b.n, .string b.s] 24)).1
    simpa using this

/-- '==' of two api.Values. -/
theorem eqV (W : World) (a b : V) : (binOp .eql 24 (.agg #[.int .i64 a.k, .int .i64 a.n, .string a.s]) (.agg #[.int .i64 b.k, .int .i64 b.n, .string b.s])).run Tryz.prog W = .ok (.bool (decide (a = b))) W := by
  by_cases h1 : a.k = b.k
  · by_cases h2 : a.n = b.n
    · by_cases h3 : a.s = b.s
      · have : a = b := V.ext' h1 h2 h3
        subst this
        go_simp
      · have h3' : ¬ a.s.toList = b.s.toList := by
          rw [Lib.toList_data, Lib.toList_data]
          intro e
          exact h3 (by cases ha : a.s; cases hb : b.s; rw [ha, hb] at e; simp at e; rw [e])
        have : decide (a = b) = false := by simp; intro e; exact h3 (by rw [e])
        go_simp
    · have : decide (a = b) = false := by simp; intro e; exact h2 (by rw [e])
      go_simp
  · have : decide (a = b) = false := by simp; intro e; exact h1 (by rw [e])
    go_simp

attribute [local go_sem high] eqV

set_option maxRecDepth 100000 in
set_option maxHeartbeats 1600000 in
theorem one_any {w : World} {τ : Tag} {hb : Nat} {H : PH} (h : HeapAt w τ hb H) (a b : V) :
    Calls Tryz.prog 160 #[.pointer (some ⟨hb, 0, Option.none⟩), a.val, b.val] w fun e w' => e = .returned (.bool (oneS H a b)) ∧ Below w.heap.size w w' := by
  obtain ⟨ba, bb⟩ := two_boxes w a b
  have hB0 : Below w.heap.size w ((w.alloc (.cells #[.int .i64 a.k, .int .i64 a.n, .string a.s] 24)).alloc (.cells #[.int .i64 b.k, .int .i64 b.n, .string b.s] 24)) := bal (bal (b0 _) _) _
  go_enter Tryz.func160, Tryz.ntmps160
  go_wp2_with fail
  refine (Kind_any (h.below hB0) a).mono ?_
  rintro e w1 ⟨rfl, hB⟩
  have hB1 := btr hB0 hB
  have h1 := h.below hB1
  have xa := (hB.block _ (by simp only [World.size_alloc]; omega)).trans ba
  have xb := (hB.block _ (by simp only [World.size_alloc]; omega)).trans bb
  obtain ⟨⟨a0, a1, a2⟩, _, al⟩ := factsV xa
  obtain ⟨⟨c0, c1, c2⟩, _, bl⟩ := factsV xb
  clear hB hB0 ba bb
  by_cases ka : H.kind a = 0
  · go_wp2_with fail
    refine (Kind_any h1 b).mono ?_
    rintro e w2 ⟨rfl, hB⟩
    have hB2 := btr hB1 hB
    have h2 := h.below hB2
    have ya := (hB.block _ al).trans xa
    have yb := (hB.block _ bl).trans xb
    obtain ⟨⟨a0', a1', a2'⟩, _, al'⟩ := factsV ya
    obtain ⟨⟨c0', c1', c2'⟩, _, bl'⟩ := factsV yb
    clear hB xa xb a0 a1 a2 c0 c1 c2
    by_cases kb : H.kind b = 0
    · have ho : oneS H a b = decide (a = b) := by rw [oneS, if_pos ⟨ka, kb⟩]
      go_wp2
      go_ret
      exact ⟨by rw [ho]; rfl, hB2⟩
    · have ho : oneS H a b = false := by rw [oneS, if_neg (fun h => kb h.2)]; simp [ka]
      have kb' : (H.kind b == 0) = false := by simpa using kb
      go_wp2_with fail
      refine (Kind_any h2 a).mono ?_
      rintro e w3 ⟨rfl, hB⟩
      have hB3 := btr hB2 hB
      clear hB
      go_wp2
      go_ret
      exact ⟨by rw [ho]; rfl, hB3⟩
  · have ka' : (H.kind a == 0) = false := by simpa using ka
    have ka'' : (H.kind a != 0) = true := by simpa using ka
    go_wp2_with fail
    refine (Kind_any h1 a).mono ?_
    rintro e w2 ⟨rfl, hB⟩
    have hB2 := btr hB1 hB
    have h2 := h.below hB2
    have ya := (hB.block _ al).trans xa
    have yb := (hB.block _ bl).trans xb
    obtain ⟨⟨a0', a1', a2'⟩, _, al'⟩ := factsV ya
    obtain ⟨⟨c0', c1', c2'⟩, _, bl'⟩ := factsV yb
    clear hB xa xb a0 a1 a2 c0 c1 c2
    go_wp2_with fail
    refine (Kind_any h2 b).mono ?_
    rintro e w3 ⟨rfl, hB⟩
    have hB3 := btr hB2 hB
    have za := (hB.block _ al').trans ya
    have zb := (hB.block _ bl').trans yb
    obtain ⟨⟨a0'', a1'', a2''⟩, _, _⟩ := factsV za
    obtain ⟨⟨c0'', c1'', c2''⟩, _, _⟩ := factsV zb
    clear hB ya yb a0' a1' a2' c0' c1' c2'
    by_cases kb : H.kind b = 0
    · have ho : oneS H a b = false := by rw [oneS, if_neg (fun h => ka h.1)]; simp [kb]
      go_wp2
      go_ret
      exact ⟨by rw [ho]; rfl, hB3⟩
    · have kb'' : (H.kind b != 0) = true := by simpa using kb
      have ho : oneS H a b = (a.n == b.n) := by rw [oneS, if_neg (fun h => ka h.1)]; by_cases e : a.n = b.n <;> simp [ka, kb, e]
      go_wp2
      go_ret
      exact ⟨by rw [ho]; rfl, hB3⟩

/-- The variables of 'same': two boxes, the result's Exc. -/
theorem three_vars (w : World) (a b : V) : ((((w.alloc (.cells #[.int .i64 a.k, .int .i64 a.n, .string a.s] 24)).alloc (.cells #[.int .i64 b.k, .int .i64 b.n, .string b.s] 24)).alloc (.cells #[.string ⟨#[]⟩, .int .i64 0, .int .i64 0, .string ⟨#[]⟩, .bool false] 33))).heap[w.heap.size]? = some (.cells #[.int .i64 a.k, .int .i64 a.n, .string a.s] 24 (0, 0)) ∧
    ((((w.alloc (.cells #[.int .i64 a.k, .int .i64 a.n, .string a.s] 24)).alloc (.cells #[.int .i64 b.k, .int .i64 b.n, .string b.s] 24)).alloc (.cells #[.string ⟨#[]⟩, .int .i64 0, .int .i64 0, .string ⟨#[]⟩, .bool false] 33))).heap[w.heap.size + 1]? = some (.cells #[.int .i64 b.k, .int .i64 b.n, .string b.s] 24 (0, 0)) ∧
    ((((w.alloc (.cells #[.int .i64 a.k, .int .i64 a.n, .string a.s] 24)).alloc (.cells #[.int .i64 b.k, .int .i64 b.n, .string b.s] 24)).alloc (.cells #[.string ⟨#[]⟩, .int .i64 0, .int .i64 0, .string ⟨#[]⟩, .bool false] 33))).heap[w.heap.size + 1 + 1]? = some (.cells #[.string ⟨#[]⟩, .int .i64 0, .int .i64 0, .string ⟨#[]⟩, .bool false] 33 (0, 0)) := by
  obtain ⟨h1, h2⟩ := two_boxes w a b
  refine ⟨(Below.heap_alloc _ _ _ (by simp only [World.size_alloc]; omega)).trans h1, (Below.heap_alloc _ _ _ (by simp)).trans h2, ?_⟩
  have := (MapKept.heap_alloc ((w.alloc (.cells #[.int .i64 a.k, .int .i64 a.n, .string a.s] 24)).alloc (.cells #[.int .i64 b.k, .int .i64 b.n, .string b.s] 24)) (.cells #[.string ⟨#[]⟩, .int .i64 0, .int .i64 0, .string ⟨#[]⟩, .bool false] 33)).1
  simpa using this

/-- A result's Exc stored, behind whatever was done. -/
theorem fin_E {w w1 : World} {g : Nat} {T' : TypeId} {p0 p1 p2 p3 p4 : Value} (hg : w.heap.size ≤ g) (he : w1.heap[g]? = some (.cells #[p0, p1, p2, p3, p4] T' (0, 0))) (hB : Below w.heap.size w w1) (y0 y1 y2 y3 y4 : Value) :
    (((((w1.setCell ⟨g, 0, Option.none⟩ y0).setCell ⟨g, 1, Option.none⟩ y1).setCell ⟨g, 2, Option.none⟩ y2).setCell ⟨g, 3, Option.none⟩ y3).setCell ⟨g, 4, Option.none⟩ y4).heap[g]? = some (.cells #[y0, y1, y2, y3, y4] T' (0, 0)) ∧
    Below w.heap.size w (((((w1.setCell ⟨g, 0, Option.none⟩ y0).setCell ⟨g, 1, Option.none⟩ y1).setCell ⟨g, 2, Option.none⟩ y2).setCell ⟨g, 3, Option.none⟩ y3).setCell ⟨g, 4, Option.none⟩ y4) :=
  ⟨putE he _ _ _ _ _, ((((hB.setCell (p := ⟨g, 0, Option.none⟩) hg _).setCell (p := ⟨g, 1, Option.none⟩) hg _).setCell (p := ⟨g, 2, Option.none⟩) hg _).setCell (p := ⟨g, 3, Option.none⟩) hg _).setCell (p := ⟨g, 4, Option.none⟩) hg _⟩

set_option maxRecDepth 100000 in
set_option maxHeartbeats 1600000 in
/-- 'same', where the first one is no list, tuple or dict. -/
theorem same_plain {w : World} {τ : Tag} {hb : Nat} {H : PH} (h : HeapAt w τ hb H) (a b : V) (deep : Int) (hw : H.whole a = false) :
    Calls Tryz.prog 158 #[.pointer (some ⟨hb, 0, Option.none⟩), a.val, b.val, .int .i64 deep] w fun e w' => e = .returned (.tuple #[.bool (oneS H a b || (decide (H.kind a = 0 ∨ H.kind b = 0) && decide (a = b))), Ex.none.val]) ∧ Below w.heap.size w w' := by
  obtain ⟨ba, bb, be⟩ := three_vars w a b
  have hB0 : Below w.heap.size w ((((w.alloc (.cells #[.int .i64 a.k, .int .i64 a.n, .string a.s] 24)).alloc (.cells #[.int .i64 b.k, .int .i64 b.n, .string b.s] 24)).alloc (.cells #[.string ⟨#[]⟩, .int .i64 0, .int .i64 0, .string ⟨#[]⟩, .bool false] 33))) := bal (bal (bal (b0 _) _) _) _
  go_enter Tryz.func158, Tryz.ntmps158
  go_wp2_with fail
  refine (one_any (h.below hB0) a b).mono ?_
  rintro e w1 ⟨rfl, hB⟩
  have hB1 := btr hB0 hB
  have h1 := h.below hB1
  have xa := (hB.block _ (by simp only [World.size_alloc]; omega)).trans ba
  have xb := (hB.block _ (by simp only [World.size_alloc]; omega)).trans bb
  have xe := (hB.block _ (by simp only [World.size_alloc]; omega)).trans be
  obtain ⟨⟨a0, a1, a2⟩, _, al⟩ := factsV xa
  obtain ⟨⟨c0, c1, c2⟩, _, bl⟩ := factsV xb
  obtain ⟨⟨e0, e1, e2, e3, e4⟩, ⟨n0, n1, n2, n3, n4⟩, el⟩ := factsE xe
  clear hB hB0 ba bb be
  cases ho : oneS H a b with
  | true =>
    go_wp2
    obtain ⟨f1, f2⟩ := fin_E (w := w) (by omega) xe hB1 _ _ _ _ _
    refine ret_tE rfl rfl rfl rfl f1 rfl ⟨?_, f2⟩
    rw [ho]; rfl
  | false =>
    go_wp2_with fail
    have d1 : ∀ W, Chg (fun _ => false) w1.drew W → W.cell? ⟨w.heap.size, 0, Option.none⟩ = some (.int .i64 a.k) ∧ W.cell? ⟨w.heap.size, 1, Option.none⟩ = some (.int .i64 a.n) ∧ W.cell? ⟨w.heap.size, 2, Option.none⟩ = some (.string a.s) := fun W hW => ⟨(hW.cell al rfl).trans a0, (hW.cell al rfl).trans a1, (hW.cell al rfl).trans a2⟩
    refine wp_region_M 14 [(0, true), (1, true), (2, false), (3, true), (4, true), (5, true), (6, true), (8, true), (9, true), (7, false), (10, false), (11, true), (12, true), (13, true)] [] [] (fun _ => false) (by kernel_rfl) (by kernel_rfl) (by simp) (fun _ _ => rfl) ?_
    iterate 2
      refine M_free rfl (by rfl) ?_
      apply Exists.intro
      refine ⟨fun W hW => ?_, ?_, ?_⟩
      · obtain ⟨x2, x3, x4⟩ := d1 W hW
        first | (go_simp; done) | (go_simp; with_reducible rfl)
      · exact fun _ _ _ h => h
      simp only [Act.put, List.setIfInBounds_toArray, List.set_cons_zero, List.set_cons_succ]
    refine M_call rfl (by rfl) (fun _ _ => rfl) fun W hBW hSW => ?_
    have hBW' : Below w1.heap.size w1 W := ⟨hBW.os, hBW.tape, hBW.output, hBW.size, hBW.block⟩
    refine ⟨_, _, _, by go_simp; try rfl, whole_any (h1.below hBW') a, ?_⟩
    rintro e W2 ⟨rfl, hB2⟩
    refine ⟨_, rfl, hB2, ?_⟩
    rw [hw]
    simp only [Act.put, List.setIfInBounds_toArray, List.set_cons_zero, List.set_cons_succ]
    iterate 2
      refine M_free rfl (by rfl) ?_
      apply Exists.intro
      refine ⟨fun W hW => ?_, ?_, ?_⟩
      · first | (go_simp; done) | (go_simp; with_reducible rfl)
      · exact fun _ _ _ h => h
      simp only [Act.put, List.setIfInBounds_toArray, List.set_cons_zero, List.set_cons_succ]
    iterate 4
      refine M_skip rfl (by rfl) (fun _ _ _ h => h) ?_
      simp only [Act.put, List.setIfInBounds_toArray, List.set_cons_zero, List.set_cons_succ]
    iterate 2
      refine M_pass rfl (by rfl) (fun _ _ => rfl) fun W hW => ?_
      simp only [Act.put, List.setIfInBounds_toArray, List.set_cons_zero, List.set_cons_succ]
    refine M_skip rfl (by rfl) (fun _ _ _ h => h) ?_
    simp only [Act.put, List.setIfInBounds_toArray, List.set_cons_zero, List.set_cons_succ]
    iterate 2
      refine M_free rfl (by rfl) ?_
      apply Exists.intro
      refine ⟨fun W hW => ?_, ?_, ?_⟩
      · first | (go_simp; done) | (go_simp; with_reducible rfl)
      · exact fun _ _ _ h => h
      simp only [Act.put, List.setIfInBounds_toArray, List.set_cons_zero, List.set_cons_succ]
    refine M_end0 fun W9 hB9 hS9 => ?_
    have hB79 : Below w1.heap.size w1 W9 := ⟨hS9.os, hS9.tape, hS9.output, hS9.size, fun j hj => hS9.block j hj rfl⟩
    simp only [List.drop_succ_cons, List.drop_zero]
    have h9 := h1.below hB79
    have hB9' := btr hB1 hB79
    have ya := (hB79.block _ al).trans xa
    have yb := (hB79.block _ bl).trans xb
    have ye := (hB79.block _ el).trans xe
    obtain ⟨⟨a0', a1', a2'⟩, _, al'⟩ := factsV ya
    obtain ⟨⟨c0', c1', c2'⟩, _, bl'⟩ := factsV yb
    obtain ⟨_, _, el'⟩ := factsE ye
    clear a0 a1 a2 c0 c1 c2 e0 e1 e2 e3 e4 n0 n1 n2 n3 n4 xa xb xe al bl el h1 hB1 hB79 hS9 hB9 hSW hBW hBW' hB2 d1
    go_wp2_with fail
    refine (Kind_any h9 a).mono ?_
    rintro e w2 ⟨rfl, hB⟩
    have hB2 := btr hB9' hB
    have h2 := h.below hB2
    have za := (hB.block _ al').trans ya
    have zb := (hB.block _ bl').trans yb
    have ze := (hB.block _ el').trans ye
    obtain ⟨⟨a0, a1, a2⟩, _, al⟩ := factsV za
    obtain ⟨⟨c0, c1, c2⟩, _, bl⟩ := factsV zb
    obtain ⟨⟨e0, e1, e2, e3, e4⟩, ⟨n0, n1, n2, n3, n4⟩, el⟩ := factsE ze
    clear a0' a1' a2' c0' c1' c2' ya yb ye hB
    by_cases ka : H.kind a = 0
    · have hr : (decide (H.kind a = 0 ∨ H.kind b = 0) && decide (a = b)) = decide (a = b) := by simp [ka]
      go_wp2
      obtain ⟨f1, f2⟩ := fin_E (w := w) (by omega) ze hB2 _ _ _ _ _
      refine ret_tE rfl rfl rfl rfl f1 rfl ⟨?_, f2⟩
      rw [ho, hr, Bool.false_or]
      rfl
    · have ka' : (H.kind a == 0) = false := by simpa using ka
      go_wp2_with fail
      refine (Kind_any h2 b).mono ?_
      rintro e w3 ⟨rfl, hB⟩
      have hB3 := btr hB2 hB
      have ya := (hB.block _ al).trans za
      have yb := (hB.block _ bl).trans zb
      have ye := (hB.block _ el).trans ze
      obtain ⟨⟨a0', a1', a2'⟩, _, al'⟩ := factsV ya
      obtain ⟨⟨c0', c1', c2'⟩, _, bl'⟩ := factsV yb
      obtain ⟨⟨e0', e1', e2', e3', e4'⟩, ⟨n0', n1', n2', n3', n4'⟩, el'⟩ := factsE ye
      clear a0 a1 a2 c0 c1 c2 e0 e1 e2 e3 e4 n0 n1 n2 n3 n4 za zb ze hB
      by_cases kb : H.kind b = 0
      · have hr : (decide (H.kind a = 0 ∨ H.kind b = 0) && decide (a = b)) = decide (a = b) := by simp [kb]
        go_wp2
        obtain ⟨f1, f2⟩ := fin_E (w := w) (by omega) ye hB3 _ _ _ _ _
        refine ret_tE rfl rfl rfl rfl f1 rfl ⟨?_, f2⟩
        rw [ho, hr, Bool.false_or]
        rfl
      · have hr : (decide (H.kind a = 0 ∨ H.kind b = 0) && decide (a = b)) = false := by simp [ka, kb]
        have kb' : (H.kind b == 0) = false := by simpa using kb
        go_wp2
        obtain ⟨f1, f2⟩ := fin_E (w := w) (by omega) ye hB3 _ _ _ _ _
        refine ret_tE rfl rfl rfl rfl f1 rfl ⟨?_, f2⟩
        rw [ho, hr, Bool.false_or]
        rfl

/-- What 'same' tells, where the first one is no list, tuple or dict. -/
def sameP (H : PH) (a b : V) : Bool := oneS H a b || (decide (H.kind a = 0 ∨ H.kind b = 0) && decide (a = b))

theorem Same_plain {w : World} {τ : Tag} {hb : Nat} {H : PH} (h : HeapAt w τ hb H) (a b : V) (hw : H.whole a = false) :
    Calls Tryz.prog 45 #[.pointer (some ⟨hb, 0, Option.none⟩), a.val, b.val] w fun e w' => e = .returned (.tuple #[.bool (sameP H a b), Ex.none.val]) ∧ Below w.heap.size w w' := by
  go_enter Tryz.func45, Tryz.ntmps45
  go_wp2_with fail
  obtain ⟨ba, bb, be⟩ := three_vars w a b
  have hB0 : Below w.heap.size w ((((w.alloc (.cells #[.int .i64 a.k, .int .i64 a.n, .string a.s] 24)).alloc (.cells #[.int .i64 b.k, .int .i64 b.n, .string b.s] 24)).alloc (.cells #[.string ⟨#[]⟩, .int .i64 0, .int .i64 0, .string ⟨#[]⟩, .bool false] 33))) := bal (bal (bal (b0 _) _) _) _
  refine (same_plain (h.below hB0) a b 0 hw).mono ?_
  rintro e w1 ⟨rfl, hB⟩
  have hB1 := btr hB0 hB
  have xe := (hB.block _ (by simp only [World.size_alloc]; omega)).trans be
  obtain ⟨⟨e0, e1, e2, e3, e4⟩, ⟨n0, n1, n2, n3, n4⟩, el⟩ := factsE xe
  clear hB hB0 ba bb be h
  rw [show (oneS H a b || (decide (H.kind a = 0 ∨ H.kind b = 0) && decide (a = b))) = sameP H a b from rfl]
  go_wp2
  obtain ⟨f1, f2⟩ := fin_E (w := w) (by omega) xe hB1 _ _ _ _ _
  exact ret_tE rfl rfl rfl rfl f1 rfl ⟨rfl, f2⟩

end Go.Proofs.YtjhfjllgjgnmeaaGreat
