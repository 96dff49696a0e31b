/- Package operate: Cmp at "==", Bin at "+". -/
import Derived.Test.YtjhfjllgjgnmeaaGreatSame
import Derived.Laws.EntriesVeiled
namespace Go.Proofs.YtjhfjllgjgnmeaaGreat
open Go.RowKit Go.Maps
attribute [local go_sem] World.cell?_alloc_some

theorem keyedS : Keyed Tryz.prog 9 := string_keyed Tryz.underlying9

theorem keyOfS {s : ByteArray} (h : s.size ≤ maxLen) : ∃ l, keyOf Tryz.prog 9 (.string s) = some l := ⟨_, by simp [keyOf, Tryz.underlying9, mapKey, h]; rfl⟩

open Classical in
/-- A pair of a map literal, at the operation. -/
theorem wpList_insert_at {P : Program} (w : World) {ops : Array Oper} {rest : List Oper} {o : Oper} {a : Act} {Q : Exit → Act → World → Prop}
    (hg : o.guard = Option.none) (mo xo vo : Operand) (t : TypeId) (hop : o.op = Op.insert t mo xo vo)
    (k e : TypeId) (K : Keyed P k) (ht : P.underlying t = some (.map k e)) (b : Nat) (m : Value → Option Value) (n : Nat)
    (hm : a.eval mo = .map (some b)) (hat : MapAt P k w b m n) (x v : Value) (l : Lit) (hx : a.eval xo = x) (hv : a.eval vo = v) (hkey : keyOf P k x = some l)
    (hK : ∀ w', MapAt P k w' b (fun y => if y = x then some v else m y) (if (m x).isSome then n else n + 1) → w.grownBy w' (some b) → wpList P ops Q rest (a.put o.dst undef) w') :
    wpList P ops Q (o :: rest) a w := by
  refine wpList_plain hg fun K' hK' => ?_
  obtain ⟨es, clock, hrun, r1⟩ := hat.update K ht hkey (v := v)
  obtain ⟨es0, clock0, hb0, _⟩ := hat
  unfold Oper.wp
  simp [execOp, hop, hm, hx, hv, hrun, Result.andThen]
  exact hK' _ _ (hK _ r1 ⟨rfl, rfl, rfl, by simp [ChangeMaps.setBlock], fun i _ hi => ChangeMaps.heap_setBlock_other hb0 _ (fun e => hi (by rw [e]))⟩)

def yesC (b : Bool) : Array Value := #[.int .i64 1, .int .i64 (bif b then 1 else 0), .string ByteArray.empty]

/-- The variables of a function that boxes two api.Values and answers an api.Value and an api.Exc. -/
structure Four (w W : World) (a b : V) : Prop where
  ba : W.heap[w.heap.size]? = some (.cells #[.int .i64 a.k, .int .i64 a.n, .string a.s] 24 (0, 0))
  bb : W.heap[w.heap.size + 1]? = some (.cells #[.int .i64 b.k, .int .i64 b.n, .string b.s] 24 (0, 0))
  rv : W.heap[w.heap.size + 1 + 1]? = some (.cells #[.int .i64 0, .int .i64 0, .string ⟨#[]⟩] 24 (0, 0))
  re : W.heap[w.heap.size + 1 + 1 + 1]? = some (.cells #[.string ⟨#[]⟩, .int .i64 0, .int .i64 0, .string ⟨#[]⟩, .bool false] 33 (0, 0))
  bel : Below w.heap.size w W

theorem Four.lt {w W : World} {a b : V} (h : Four w W a b) : w.heap.size + 1 + 1 + 1 < W.heap.size := (Array.getElem?_eq_some_iff.1 h.re).1

theorem Four.below {w W W' : World} {a b : V} (h : Four w W a b) (hB : Below W.heap.size W W') : Four w W' a b :=
  have := h.lt
  ⟨(hB.block _ (by omega)).trans h.ba, (hB.block _ (by omega)).trans h.bb, (hB.block _ (by omega)).trans h.rv, (hB.block _ (by omega)).trans h.re, h.bel.trans (hB.mono h.bel.size)⟩

theorem Four.grown {w W W' : World} {a b : V} {m : Nat} (h : Four w W a b) (hg : W.grownBy W' (some m)) (hm : w.heap.size + 1 + 1 + 1 < m) : Four w W' a b :=
  have := h.lt
  ⟨(hg.block _ (by omega) (fun e => by have := Option.some.inj e; omega)).trans h.ba, (hg.block _ (by omega) (fun e => by have := Option.some.inj e; omega)).trans h.bb, (hg.block _ (by omega) (fun e => by have := Option.some.inj e; omega)).trans h.rv, (hg.block _ (by omega) (fun e => by have := Option.some.inj e; omega)).trans h.re,
    h.bel.trans ⟨hg.os, hg.tape, hg.output, hg.size, fun j hj => hg.block j (Nat.lt_of_lt_of_le hj h.bel.size) (fun e => by have := Option.some.inj e; omega)⟩⟩

theorem four (w : World) (a b : V) : Four w ((((w.alloc (.cells #[.int .i64 a.k, .int .i64 a.n, .string a.s] 24)).alloc (.cells #[.int .i64 b.k, .int .i64 b.n, .string b.s] 24)).alloc (.cells #[.int .i64 0, .int .i64 0, .string ⟨#[]⟩] 24)).alloc (.cells #[.string ⟨#[]⟩, .int .i64 0, .int .i64 0, .string ⟨#[]⟩, .bool false] 33)) a b := by
  obtain ⟨h1, h2⟩ := two_boxes w a b
  obtain ⟨h3, h4⟩ := two_vars ((w.alloc (.cells #[.int .i64 a.k, .int .i64 a.n, .string a.s] 24)).alloc (.cells #[.int .i64 b.k, .int .i64 b.n, .string b.s] 24))
  refine ⟨?_, ?_, by simpa using h3, by simpa using h4, bal (bal (bal (bal (b0 _) _) _) _) _⟩
  · rw [Below.heap_alloc _ _ _ (by simp only [World.size_alloc]; omega), Below.heap_alloc _ _ _ (by simp only [World.size_alloc]; omega)]; exact h1
  · rw [Below.heap_alloc _ _ _ (by simp only [World.size_alloc]; omega), Below.heap_alloc _ _ _ (by simp only [World.size_alloc]; omega)]; exact h2

set_option maxRecDepth 100000 in
theorem yes_any (w : World) (x : Bool) : Calls Tryz.prog 163 #[.bool x] w fun e w' => e = .returned (.agg #[.int .i64 1, .int .i64 (bif x then 1 else 0), .string ByteArray.empty]) ∧ Below w.heap.size w w' := by
  have hv := (MapKept.heap_alloc w (.cells #[.int .i64 0, .int .i64 0, .string ⟨#[]⟩] 24)).1
  cases x
  · go_enter Tryz.func163, Tryz.ntmps163
    go_wp2
    refine ret_V rfl rfl ((Below.heap_alloc _ _ _ (by simp)).trans (MapKept.heap_alloc w _).1) rfl ⟨rfl, ?_⟩
    exact bal (bal (b0 _) _) _
  · go_enter Tryz.func163, Tryz.ntmps163
    go_wp2
    refine ret_V rfl rfl ((Below.heap_alloc _ _ _ (by simp)).trans (MapKept.heap_alloc w _).1) rfl ⟨rfl, ?_⟩
    exact bal (bal (b0 _) _) _

/-- Both results stored, wherever they lie. -/
theorem fin_VEg {w w1 : World} {g : Nat} {T T' : TypeId} {o0 o1 o2 p0 p1 p2 p3 p4 : Value} (hg : w.heap.size ≤ g) (hv : w1.heap[g]? = some (.cells #[o0, o1, o2] T (0, 0))) (he : w1.heap[g + 1]? = some (.cells #[p0, p1, p2, p3, p4] T' (0, 0))) (hB : Below w.heap.size w w1) (x0 x1 x2 y0 y1 y2 y3 y4 : Value) :
    ((((((((w1.setCell ⟨g, 0, Option.none⟩ x0).setCell ⟨g, 1, Option.none⟩ x1).setCell ⟨g, 2, Option.none⟩ x2).setCell ⟨g + 1, 0, Option.none⟩ y0).setCell ⟨g + 1, 1, Option.none⟩ y1).setCell ⟨g + 1, 2, Option.none⟩ y2).setCell ⟨g + 1, 3, Option.none⟩ y3).setCell ⟨g + 1, 4, Option.none⟩ y4).heap[g]? = some (.cells #[x0, x1, x2] T (0, 0)) ∧ ((((((((w1.setCell ⟨g, 0, Option.none⟩ x0).setCell ⟨g, 1, Option.none⟩ x1).setCell ⟨g, 2, Option.none⟩ x2).setCell ⟨g + 1, 0, Option.none⟩ y0).setCell ⟨g + 1, 1, Option.none⟩ y1).setCell ⟨g + 1, 2, Option.none⟩ y2).setCell ⟨g + 1, 3, Option.none⟩ y3).setCell ⟨g + 1, 4, Option.none⟩ y4).heap[g + 1]? = some (.cells #[y0, y1, y2, y3, y4] T' (0, 0)) ∧ Below w.heap.size w ((((((((w1.setCell ⟨g, 0, Option.none⟩ x0).setCell ⟨g, 1, Option.none⟩ x1).setCell ⟨g, 2, Option.none⟩ x2).setCell ⟨g + 1, 0, Option.none⟩ y0).setCell ⟨g + 1, 1, Option.none⟩ y1).setCell ⟨g + 1, 2, Option.none⟩ y2).setCell ⟨g + 1, 3, Option.none⟩ y3).setCell ⟨g + 1, 4, Option.none⟩ y4) := by
  refine ⟨?_, ?_, ?_⟩
  · rw [oPutE (by omega)]
    exact putV hv _ _ _
  · exact putE ((oPutV (by omega) _ _ _).trans he) _ _ _ _ _
  · have h2 : w.heap.size ≤ g + 1 := Nat.le_succ_of_le hg
    exact (((((((hB.setCell (p := ⟨g, 0, Option.none⟩) hg _).setCell (p := ⟨g, 1, Option.none⟩) hg _).setCell (p := ⟨g, 2, Option.none⟩) hg _).setCell (p := ⟨g + 1, 0, Option.none⟩) h2 _).setCell (p := ⟨g + 1, 1, Option.none⟩) h2 _).setCell (p := ⟨g + 1, 2, Option.none⟩) h2 _).setCell (p := ⟨g + 1, 3, Option.none⟩) h2 _).setCell (p := ⟨g + 1, 4, Option.none⟩) h2 _

theorem order_any (w : World) (x y : Bool) : Calls Tryz.prog 162 #[.bool x, .bool y] w fun e w' => ∃ f bd, e = .returned (.func f #[] bd) ∧ Below w.heap.size w w' := by
  go_enter Tryz.func162, Tryz.ntmps162
  go_wp2
  go_ret
  exact ⟨_, _, rfl, by first | exact b0 _ | exact bal (b0 _) _ | exact bal (bal (b0 _) _) _⟩

set_option maxRecDepth 100000 in
set_option maxHeartbeats 3200000 in
theorem Cmp_eq {w : World} {τ : Tag} {hb : Nat} {H : PH} (h : HeapAt w τ hb H) (a b : V) (hw : H.whole a = false) :
    Calls Tryz.prog 46 #[.pointer (some ⟨hb, 0, Option.none⟩), .string ⟨#[61, 61]⟩, a.val, b.val] w fun e w' => e = .returned (.tuple #[.agg (yesC (sameP H a b)), Ex.none.val]) ∧ Below w.heap.size w w' := by
  have hmm := @run_makeMap Tryz.prog
  have F0 := (four w a b).below (bal (b0 _) (.map #[] 0))
  have hM0 := MapAt.new Tryz.prog 9 ((((w.alloc (.cells #[.int .i64 a.k, .int .i64 a.n, .string a.s] 24)).alloc (.cells #[.int .i64 b.k, .int .i64 b.n, .string b.s] 24)).alloc (.cells #[.int .i64 0, .int .i64 0, .string ⟨#[]⟩] 24)).alloc (.cells #[.string ⟨#[]⟩, .int .i64 0, .int .i64 0, .string ⟨#[]⟩, .bool false] 33))
  simp only [World.size_alloc] at hM0
  go_enter Tryz.func46, Tryz.ntmps46
  obtain ⟨l1, k1⟩ := keyOfS (s := ⟨#[61, 61]⟩) (by decide)
  go_wp2_with (refine wpList_insert_at _ rfl _ _ _ 193 rfl 9 190 keyedS Tryz.underlying193 _ _ _ rfl hM0 _ _ _ rfl rfl k1 ?_)
  intro W1 hM1 hg1
  have F1 := F0.grown hg1 (by omega)
  clear hM0 F0 hg1 k1
  obtain ⟨l2, k2⟩ := keyOfS (s := ⟨#[33, 61]⟩) (by decide)
  go_wp2_with (refine wpList_insert_at _ rfl _ _ _ 193 rfl 9 190 keyedS Tryz.underlying193 _ _ _ rfl hM1 _ _ _ rfl rfl k2 ?_)
  intro W2 hM2 hg2
  have F2 := F1.grown hg2 (by omega)
  clear hM1 F1 hg2 k2
  obtain ⟨l3, k3⟩ := keyOfS (s := ⟨#[105, 115]⟩) (by decide)
  go_wp2_with (refine wpList_insert_at _ rfl _ _ _ 193 rfl 9 190 keyedS Tryz.underlying193 _ _ _ rfl hM2 _ _ _ rfl rfl k3 ?_)
  intro W3 hM3 hg3
  have F3 := F2.grown hg3 (by omega)
  clear hM2 F2 hg3 k3
  obtain ⟨l4, k4⟩ := keyOfS (s := ⟨#[105, 115, 32, 110, 111, 116]⟩) (by decide)
  go_wp2_with (refine wpList_insert_at _ rfl _ _ _ 193 rfl 9 190 keyedS Tryz.underlying193 _ _ _ rfl hM3 _ _ _ rfl rfl k4 ?_)
  intro W4 hM4 hg4
  have F4 := F3.grown hg4 (by omega)
  clear hM3 F3 hg4 k4
  obtain ⟨l5, k5⟩ := keyOfS (s := ⟨#[105, 110]⟩) (by decide)
  go_wp2_with (refine wpList_insert_at _ rfl _ _ _ 193 rfl 9 190 keyedS Tryz.underlying193 _ _ _ rfl hM4 _ _ _ rfl rfl k5 ?_)
  intro W5 hM5 hg5
  have F5 := F4.grown hg5 (by omega)
  clear hM4 F4 hg5 k5
  obtain ⟨l6, k6⟩ := keyOfS (s := ⟨#[110, 111, 116, 32, 105, 110]⟩) (by decide)
  go_wp2_with (refine wpList_insert_at _ rfl _ _ _ 193 rfl 9 190 keyedS Tryz.underlying193 _ _ _ rfl hM5 _ _ _ rfl rfl k6 ?_)
  intro W6 hM6 hg6
  have F6 := F5.grown hg6 (by omega)
  clear hM5 F5 hg6 k6
  go_wp2_with fail
  refine (order_any _ _ _).mono ?_
  rintro e V7 ⟨f7, bd7, rfl, hB7⟩
  have F7' := F6.below hB7
  have hM7' := hM6.same (hB7.block _ hM6.lt)
  obtain ⟨l7, k7⟩ := keyOfS (s := ⟨#[60]⟩) (by decide)
  go_wp2_with (refine wpList_insert_at _ rfl _ _ _ 193 rfl 9 190 keyedS Tryz.underlying193 _ _ _ rfl hM7' _ _ _ rfl rfl k7 ?_)
  intro W7 hM7 hg7
  have F7 := F7'.grown hg7 (by omega)
  clear hM7' F7' hg7 k7 hM6 F6 hB7
  go_wp2_with fail
  refine (order_any _ _ _).mono ?_
  rintro e V8 ⟨f8, bd8, rfl, hB8⟩
  have F8' := F7.below hB8
  have hM8' := hM7.same (hB8.block _ hM7.lt)
  obtain ⟨l8, k8⟩ := keyOfS (s := ⟨#[60, 61]⟩) (by decide)
  go_wp2_with (refine wpList_insert_at _ rfl _ _ _ 193 rfl 9 190 keyedS Tryz.underlying193 _ _ _ rfl hM8' _ _ _ rfl rfl k8 ?_)
  intro W8 hM8 hg8
  have F8 := F8'.grown hg8 (by omega)
  clear hM8' F8' hg8 k8 hM7 F7 hB8
  go_wp2_with fail
  refine (order_any _ _ _).mono ?_
  rintro e V9 ⟨f9, bd9, rfl, hB9⟩
  have F9' := F8.below hB9
  have hM9' := hM8.same (hB9.block _ hM8.lt)
  obtain ⟨l9, k9⟩ := keyOfS (s := ⟨#[62]⟩) (by decide)
  go_wp2_with (refine wpList_insert_at _ rfl _ _ _ 193 rfl 9 190 keyedS Tryz.underlying193 _ _ _ rfl hM9' _ _ _ rfl rfl k9 ?_)
  intro W9 hM9 hg9
  have F9 := F9'.grown hg9 (by omega)
  clear hM9' F9' hg9 k9 hM8 F8 hB9
  go_wp2_with fail
  refine (order_any _ _ _).mono ?_
  rintro e V10 ⟨f10, bd10, rfl, hB10⟩
  have F10' := F9.below hB10
  have hM10' := hM9.same (hB10.block _ hM9.lt)
  obtain ⟨l10, k10⟩ := keyOfS (s := ⟨#[62, 61]⟩) (by decide)
  go_wp2_with (refine wpList_insert_at _ rfl _ _ _ 193 rfl 9 190 keyedS Tryz.underlying193 _ _ _ rfl hM10' _ _ _ rfl rfl k10 ?_)
  intro W10 hM10 hg10
  have F10 := F10'.grown hg10 (by omega)
  clear hM10' F10' hg10 k10 hM9 F9 hB10
  have hz : (zeroValue 190).run Tryz.prog W10 = .ok (.agg #[.nilFunc, .bool false]) W10 := by kernel_rfl
  have hlk := hM10.lookup true keyedS Tryz.underlying193 hz (x := .string ⟨#[61, 61]⟩) (keyOfS (s := ⟨#[61, 61]⟩) (by decide)).choose_spec
  have h10 : HeapAt W10 τ hb H := h.below F10.bel
  clear hM10 l1 l2 l3 l4 l5 l6 l7 l8 l9 l10
  simp only [Value.string.injEq, ByteArray.mk.injEq] at hlk
  simp only [show ((#[61, 61] : Array UInt8) = #[62, 61]) = False by decide, show ((#[61, 61] : Array UInt8) = #[62]) = False by decide, show ((#[61, 61] : Array UInt8) = #[60, 61]) = False by decide, show ((#[61, 61] : Array UInt8) = #[60]) = False by decide,
    show ((#[61, 61] : Array UInt8) = #[110, 111, 116, 32, 105, 110]) = False by decide, show ((#[61, 61] : Array UInt8) = #[105, 110]) = False by decide, show ((#[61, 61] : Array UInt8) = #[105, 115, 32, 110, 111, 116]) = False by decide, show ((#[61, 61] : Array UInt8) = #[105, 115]) = False by decide,
    show ((#[61, 61] : Array UInt8) = #[33, 61]) = False by decide, if_false, if_true, Option.getD_some, Option.isSome_some] at hlk
  obtain ⟨⟨a0, a1, a2⟩, _, al⟩ := factsV F10.ba
  obtain ⟨⟨c0, c1, c2⟩, _, bl⟩ := factsV F10.bb
  go_wp2_with fail
  refine (Same_plain (h10.below (bal (b0 _) _)) a b hw).mono ?_
  rintro e X1 ⟨rfl, hB⟩
  have hcv := (hB.block _ (by simp)).trans (MapKept.heap_alloc W10 (.cells #[.func (.func 45) #[] #[], .bool false] 190)).1
  have F11 := F10.below (btr (bal (b0 _) _) hB)
  have cv1 := (cells_of_block hcv).1 1
  simp at cv1
  have hne : Ex.none.name.toList.isEmpty = true := by rw [nameE]; rfl
  obtain ⟨⟨v0, v1, v2⟩, ⟨m0, m1, m2⟩, vl⟩ := factsV F11.rv
  obtain ⟨⟨e0, e1, e2, e3, e4⟩, ⟨n0, n1, n2, n3, n4⟩, el⟩ := factsE F11.re
  have hlc : W10.heap.size < X1.heap.size := (Array.getElem?_eq_some_iff.1 hcv).1
  clear hlk hz a0 a1 a2 c0 c1 c2 h10 hB
  cases hr : sameP H a b
  · go_wp2_with fail
    refine (yes_any _ _).mono ?_
    rintro e X2 ⟨rfl, hB⟩
    have F12 := F11.below (btr (bal (b0 _) _) hB)
    clear v0 v1 v2 m0 m1 m2 vl e0 e1 e2 e3 e4 n0 n1 n2 n3 n4 el hB
    obtain ⟨⟨v0, v1, v2⟩, ⟨m0, m1, m2⟩, vl⟩ := factsV F12.rv
    obtain ⟨⟨e0, e1, e2, e3, e4⟩, ⟨n0, n1, n2, n3, n4⟩, el⟩ := factsE F12.re
    go_wp2
    obtain ⟨f1, f2, f3⟩ := fin_VEg (w := w) (by omega) F12.rv F12.re F12.bel _ _ _ _ _ _ _ _
    exact ret_VE rfl rfl rfl rfl rfl f1 f2 rfl ⟨by rw [hr]; rfl, f3⟩
  · go_wp2_with fail
    refine (yes_any _ _).mono ?_
    rintro e X2 ⟨rfl, hB⟩
    have F12 := F11.below (btr (bal (b0 _) _) hB)
    clear v0 v1 v2 m0 m1 m2 vl e0 e1 e2 e3 e4 n0 n1 n2 n3 n4 el hB
    obtain ⟨⟨v0, v1, v2⟩, ⟨m0, m1, m2⟩, vl⟩ := factsV F12.rv
    obtain ⟨⟨e0, e1, e2, e3, e4⟩, ⟨n0, n1, n2, n3, n4⟩, el⟩ := factsE F12.re
    go_wp2
    obtain ⟨f1, f2, f3⟩ := fin_VEg (w := w) (by omega) F12.rv F12.re F12.bel _ _ _ _ _ _ _ _
    exact ret_VE rfl rfl rfl rfl rfl f1 f2 rfl ⟨by rw [hr]; rfl, f3⟩

end Go.Proofs.YtjhfjllgjgnmeaaGreat
