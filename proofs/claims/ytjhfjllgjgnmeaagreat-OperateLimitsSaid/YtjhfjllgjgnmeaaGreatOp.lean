/- Package operate: raise, wrong, and the like. -/
import Derived.Test.YtjhfjllgjgnmeaaGreatWhole
namespace Go.Proofs.YtjhfjllgjgnmeaaGreat
open Go.RowKit Go.Maps
attribute [local go_sem] World.cell?_alloc_some

/-- api.Exc. -/
structure Ex where
  name : ByteArray
  arg : V
  has : Bool

def V.nul : V := ⟨0, 0, ByteArray.empty, by decide, by decide, by simp⟩
abbrev Ex.cells (e : Ex) : Array Value := #[.string e.name, .int .i64 e.arg.k, .int .i64 e.arg.n, .string e.arg.s, .bool e.has]
abbrev Ex.val (e : Ex) : Value := .agg e.cells
def Ex.raise (name : ByteArray) : Ex := ⟨name, V.nul, false⟩
def Ex.none : Ex := Ex.raise ByteArray.empty

section
variable {fn : Func} {R : Ending → World → Prop} {a : Act} {w : World} {p q u : Tmp} {g g' : Nat}

theorem loadE {cs : Array Value} (hg : w.heap[g]? = some (.cells cs 33 (0, 0))) (hs : cs.size = 5) : (loadVar 33 ⟨g, 0, none⟩).run Tryz.prog w = .ok (.agg cs) w :=
  run_loadVar_row w g 33 33 cs (0, 0) _ hg Tryz.underlying33 rfl (by rw [hs]; kernel_rfl)
theorem loadV {cs : Array Value} (hg : w.heap[g]? = some (.cells cs 24 (0, 0))) (hs : cs.size = 3) : (loadVar 24 ⟨g, 0, none⟩).run Tryz.prog w = .ok (.agg cs) w :=
  run_loadVar_row w g 24 24 cs (0, 0) _ hg Tryz.underlying24 rfl (by rw [hs]; kernel_rfl)

/-- A return of one api.Exc. -/
theorem ret_E (hres : fn.results = #[.cell p 33]) {cs : Array Value} (hs : cs.size = 5) (hp : a.tmps.getD p undef = .pointer (some ⟨g, 0, Option.none⟩)) (hg : w.heap[g]? = some (.cells cs 33 (0, 0))) (hd : a.defers = []) (hR : R (.returned (.agg cs)) w) : bodyPost Tryz.prog fn R .ret a w := by
  refine bodyPost_ret (v := .agg cs) ?_ hd hR
  have hp' : a.tmps[p]?.getD undef = .pointer (some ⟨g, 0, Option.none⟩) := by simpa using hp
  simp [results, hres, hp', asAddr, loadE hg hs]

/-- A return of an api.Value and an api.Exc. -/
theorem ret_VE (hres : fn.results = #[.cell p 24, .cell q 33]) {cs ce : Array Value} (hs : cs.size = 3) (he : ce.size = 5) (hp : a.tmps.getD p undef = .pointer (some ⟨g, 0, Option.none⟩)) (hq : a.tmps.getD q undef = .pointer (some ⟨g', 0, Option.none⟩))
    (hg : w.heap[g]? = some (.cells cs 24 (0, 0))) (hg' : w.heap[g']? = some (.cells ce 33 (0, 0))) (hd : a.defers = []) (hR : R (.returned (.tuple #[.agg cs, .agg ce])) w) : bodyPost Tryz.prog fn R .ret a w := by
  refine bodyPost_ret (v := .tuple #[.agg cs, .agg ce]) ?_ hd hR
  have hp' : a.tmps[p]?.getD undef = .pointer (some ⟨g, 0, Option.none⟩) := by simpa using hp
  have hq' : a.tmps[q]?.getD undef = .pointer (some ⟨g', 0, Option.none⟩) := by simpa using hq
  simp [results, hres, hp', hq', asAddr, loadV hg hs, loadE hg' he, Sem.run_bind, Result.andThen]

/-- A return of a temporary and an api.Exc. -/
theorem ret_tE (hres : fn.results = #[.tmp u, .cell q 33]) {v : Value} {ce : Array Value} (he : ce.size = 5) (hu : a.tmps.getD u undef = v) (hq : a.tmps.getD q undef = .pointer (some ⟨g', 0, Option.none⟩))
    (hg' : w.heap[g']? = some (.cells ce 33 (0, 0))) (hd : a.defers = []) (hR : R (.returned (.tuple #[v, .agg ce])) w) : bodyPost Tryz.prog fn R .ret a w := by
  refine bodyPost_ret (v := .tuple #[v, .agg ce]) ?_ hd hR
  have hu' : a.tmps[u]?.getD undef = v := by simpa using hu
  have hq' : a.tmps[q]?.getD undef = .pointer (some ⟨g', 0, Option.none⟩) := by simpa using hq
  simp [results, hres, hu', hq', asAddr, loadE hg' he, Result.andThen]
end

theorem putV {w : World} {g : Nat} {T : TypeId} {o0 o1 o2 : Value} (h : w.heap[g]? = some (.cells #[o0, o1, o2] T (0, 0))) (x0 x1 x2 : Value) :
    (((w.setCell ⟨g, 0, Option.none⟩ x0).setCell ⟨g, 1, Option.none⟩ x1).setCell ⟨g, 2, Option.none⟩ x2).heap[g]? = some (.cells #[x0, x1, x2] T (0, 0)) := heap_setCell_same (o := 2) (heap_setCell_same (o := 1) (heap_setCell_same (o := 0) h))

theorem putE {w : World} {g : Nat} {T : TypeId} {o0 o1 o2 o3 o4 : Value} (h : w.heap[g]? = some (.cells #[o0, o1, o2, o3, o4] T (0, 0))) (x0 x1 x2 x3 x4 : Value) :
    (((((w.setCell ⟨g, 0, Option.none⟩ x0).setCell ⟨g, 1, Option.none⟩ x1).setCell ⟨g, 2, Option.none⟩ x2).setCell ⟨g, 3, Option.none⟩ x3).setCell ⟨g, 4, Option.none⟩ x4).heap[g]? = some (.cells #[x0, x1, x2, x3, x4] T (0, 0)) :=
  heap_setCell_same (o := 4) (heap_setCell_same (o := 3) (heap_setCell_same (o := 2) (heap_setCell_same (o := 1) (heap_setCell_same (o := 0) h))))

theorem oPutV {w : World} {g j : Nat} (hj : j ≠ g) (x0 x1 x2 : Value) : (((w.setCell ⟨g, 0, Option.none⟩ x0).setCell ⟨g, 1, Option.none⟩ x1).setCell ⟨g, 2, Option.none⟩ x2).heap[j]? = w.heap[j]? := by
  rw [Below.heap_setCell _ _ _ _ hj, Below.heap_setCell _ _ _ _ hj, Below.heap_setCell _ _ _ _ hj]
theorem oPutE {w : World} {g j : Nat} (hj : j ≠ g) (x0 x1 x2 x3 x4 : Value) : (((((w.setCell ⟨g, 0, Option.none⟩ x0).setCell ⟨g, 1, Option.none⟩ x1).setCell ⟨g, 2, Option.none⟩ x2).setCell ⟨g, 3, Option.none⟩ x3).setCell ⟨g, 4, Option.none⟩ x4).heap[j]? = w.heap[j]? := by
  rw [Below.heap_setCell _ _ _ _ hj, Below.heap_setCell _ _ _ _ hj, Below.heap_setCell _ _ _ _ hj, Below.heap_setCell _ _ _ _ hj, Below.heap_setCell _ _ _ _ hj]

/-- The facts that a walk wants of a variable. -/
theorem factsV {w : World} {g : Nat} {T : TypeId} {x0 x1 x2 : Value} (h : w.heap[g]? = some (.cells #[x0, x1, x2] T (0, 0))) :
    (w.cell? ⟨g, 0, Option.none⟩ = some x0 ∧ w.cell? ⟨g, 1, Option.none⟩ = some x1 ∧ w.cell? ⟨g, 2, Option.none⟩ = some x2) ∧ (w.frozen? ⟨g, 0, Option.none⟩ = false ∧ w.frozen? ⟨g, 1, Option.none⟩ = false ∧ w.frozen? ⟨g, 2, Option.none⟩ = false) ∧ g < w.heap.size := by
  obtain ⟨hc, hf, hl⟩ := cells_of_block h
  exact ⟨⟨hc 0, hc 1, hc 2⟩, ⟨hf 0, hf 1, hf 2⟩, hl⟩
theorem factsE {w : World} {g : Nat} {T : TypeId} {x0 x1 x2 x3 x4 : Value} (h : w.heap[g]? = some (.cells #[x0, x1, x2, x3, x4] T (0, 0))) :
    (w.cell? ⟨g, 0, Option.none⟩ = some x0 ∧ w.cell? ⟨g, 1, Option.none⟩ = some x1 ∧ w.cell? ⟨g, 2, Option.none⟩ = some x2 ∧ w.cell? ⟨g, 3, Option.none⟩ = some x3 ∧ w.cell? ⟨g, 4, Option.none⟩ = some x4) ∧
      (w.frozen? ⟨g, 0, Option.none⟩ = false ∧ w.frozen? ⟨g, 1, Option.none⟩ = false ∧ w.frozen? ⟨g, 2, Option.none⟩ = false ∧ w.frozen? ⟨g, 3, Option.none⟩ = false ∧ w.frozen? ⟨g, 4, Option.none⟩ = false) ∧ g < w.heap.size := by
  obtain ⟨hc, hf, hl⟩ := cells_of_block h
  exact ⟨⟨hc 0, hc 1, hc 2, hc 3, hc 4⟩, ⟨hf 0, hf 1, hf 2, hf 3, hf 4⟩, hl⟩

/-- The two results' variables. -/
theorem two_vars (w : World) : ((w.alloc (.cells #[.int .i64 0, .int .i64 0, .string ⟨#[]⟩] 24)).alloc (.cells #[.string ⟨#[]⟩, .int .i64 0, .int .i64 0, .string ⟨#[]⟩, .bool false] 33)).heap[w.heap.size]? = some (.cells #[.int .i64 0, .int .i64 0, .string ⟨#[]⟩] 24 (0, 0)) ∧
    ((w.alloc (.cells #[.int .i64 0, .int .i64 0, .string ⟨#[]⟩] 24)).alloc (.cells #[.string ⟨#[]⟩, .int .i64 0, .int .i64 0, .string ⟨#[]⟩, .bool false] 33)).heap[w.heap.size + 1]? = some (.cells #[.string ⟨#[]⟩, .int .i64 0, .int .i64 0, .string ⟨#[]⟩, .bool false] 33 (0, 0)) := by
  refine ⟨?_, ?_⟩
  · rw [Below.heap_alloc _ _ _ (by simp)]
    exact (MapKept.heap_alloc w _).1
  · have := (MapKept.heap_alloc (w.alloc (.cells #[.int .i64 0, .int .i64 0, .string ⟨#[]⟩] 24)) (.cells #[.string ⟨#[]⟩, .int .i64 0, .int .i64 0, .string ⟨#[]⟩, .bool false] 33)).1
    simpa using this

theorem HeapAt.olt' {w : World} {τ : Tag} {hb : Nat} {H : PH} (h : HeapAt w τ hb H) : ∀ j, own τ j = true → j < w.heap.size := by
  obtain ⟨ma, mr, pb, h⟩ := h
  exact h.lt

theorem fin_VE {w w1 : World} {T T' : TypeId} {o0 o1 o2 p0 p1 p2 p3 p4 : Value} (hv : w1.heap[w.heap.size]? = some (.cells #[o0, o1, o2] T (0, 0))) (he : w1.heap[w.heap.size + 1]? = some (.cells #[p0, p1, p2, p3, p4] T' (0, 0))) (hB : Below w.heap.size w w1) (x0 x1 x2 y0 y1 y2 y3 y4 : Value) :
    ((((((((w1.setCell ⟨w.heap.size, 0, Option.none⟩ x0).setCell ⟨w.heap.size, 1, Option.none⟩ x1).setCell ⟨w.heap.size, 2, Option.none⟩ x2).setCell ⟨w.heap.size + 1, 0, Option.none⟩ y0).setCell ⟨w.heap.size + 1, 1, Option.none⟩ y1).setCell ⟨w.heap.size + 1, 2, Option.none⟩ y2).setCell ⟨w.heap.size + 1, 3, Option.none⟩ y3).setCell ⟨w.heap.size + 1, 4, Option.none⟩ y4).heap[w.heap.size]? = some (.cells #[x0, x1, x2] T (0, 0)) ∧
    ((((((((w1.setCell ⟨w.heap.size, 0, Option.none⟩ x0).setCell ⟨w.heap.size, 1, Option.none⟩ x1).setCell ⟨w.heap.size, 2, Option.none⟩ x2).setCell ⟨w.heap.size + 1, 0, Option.none⟩ y0).setCell ⟨w.heap.size + 1, 1, Option.none⟩ y1).setCell ⟨w.heap.size + 1, 2, Option.none⟩ y2).setCell ⟨w.heap.size + 1, 3, Option.none⟩ y3).setCell ⟨w.heap.size + 1, 4, Option.none⟩ y4).heap[w.heap.size + 1]? = some (.cells #[y0, y1, y2, y3, y4] T' (0, 0)) ∧
    Below w.heap.size w ((((((((w1.setCell ⟨w.heap.size, 0, Option.none⟩ x0).setCell ⟨w.heap.size, 1, Option.none⟩ x1).setCell ⟨w.heap.size, 2, Option.none⟩ x2).setCell ⟨w.heap.size + 1, 0, Option.none⟩ y0).setCell ⟨w.heap.size + 1, 1, Option.none⟩ y1).setCell ⟨w.heap.size + 1, 2, Option.none⟩ y2).setCell ⟨w.heap.size + 1, 3, Option.none⟩ y3).setCell ⟨w.heap.size + 1, 4, Option.none⟩ y4) := by
  refine ⟨?_, ?_, ?_⟩
  · rw [oPutE (by omega)]
    exact putV hv _ _ _
  · exact putE ((oPutV (by omega) _ _ _).trans he) _ _ _ _ _
  · have h1 : w.heap.size ≤ w.heap.size := Nat.le_refl _
    have h2 : w.heap.size ≤ w.heap.size + 1 := Nat.le_succ _
    exact (((((((hB.setCell (p := ⟨w.heap.size, 0, Option.none⟩) h1 _).setCell (p := ⟨w.heap.size, 1, Option.none⟩) h1 _).setCell (p := ⟨w.heap.size, 2, Option.none⟩) h1 _).setCell (p := ⟨w.heap.size + 1, 0, Option.none⟩) h2 _).setCell (p := ⟨w.heap.size + 1, 1, Option.none⟩) h2 _).setCell (p := ⟨w.heap.size + 1, 2, Option.none⟩) h2 _).setCell (p := ⟨w.heap.size + 1, 3, Option.none⟩) h2 _).setCell (p := ⟨w.heap.size + 1, 4, Option.none⟩) h2 _

theorem raise_any (w : World) (name : ByteArray) : Calls Tryz.prog 99 #[.string name] w fun e w' => e = .returned (Ex.raise name).val ∧ Below w.heap.size w w' := by
  go_enter Tryz.func99, Tryz.ntmps99
  go_wp2
  refine ret_E rfl rfl rfl (MapKept.heap_alloc w _).1 rfl ?_
  exact ⟨rfl, bal (b0 _) _⟩

theorem wrong_any (w : World) : Calls Tryz.prog 61 #[] w fun e w' => e = .returned (.tuple #[V.nul.val, (Ex.raise ⟨#[84, 121, 112, 101, 69, 114, 114, 111, 114]⟩).val]) ∧ Below w.heap.size w w' := by
  go_enter Tryz.func61, Tryz.ntmps61
  go_wp2_with fail
  refine (raise_any _ _).mono ?_
  rintro e w1 ⟨rfl, hB⟩
  obtain ⟨hv, he⟩ := two_vars w
  have hv1 := (hB.block _ (by simp only [World.size_alloc]; omega)).trans hv
  have he1 := (hB.block _ (by simp only [World.size_alloc]; omega)).trans he
  have hB1 := btr (bal (bal (b0 _) _) _) hB
  obtain ⟨⟨v0, v1, v2⟩, ⟨m0, m1, m2⟩, vl⟩ := factsV hv1
  obtain ⟨⟨e0, e1, e2, e3, e4⟩, ⟨n0, n1, n2, n3, n4⟩, el⟩ := factsE he1
  clear hB hv he
  go_wp2
  obtain ⟨f1, f2, f3⟩ := fin_VE hv1 he1 hB1 _ _ _ _ _ _ _ _
  exact ret_VE rfl rfl rfl rfl rfl f1 f2 rfl ⟨rfl, f3⟩

def typeErr : ByteArray := ⟨#[84, 121, 112, 101, 69, 114, 114, 111, 114]⟩

/-- Both results stored, where the heap has turned too. -/
theorem fin_VE_heap {w w1 : World} {τ τ' : Tag} {hb : Nat} {H H' : PH} {T T' : TypeId} {o0 o1 o2 p0 p1 p2 p3 p4 : Value} (hv : w1.heap[w.heap.size]? = some (.cells #[o0, o1, o2] T (0, 0))) (he : w1.heap[w.heap.size + 1]? = some (.cells #[p0, p1, p2, p3, p4] T' (0, 0)))
    (h : HeapAt w τ hb H) (hC : Chg (own τ) w w1) (hH : HeapAt w1 τ' hb H') (hT : ∀ b, b < w.heap.size + 2 → τ' b = τ b) (x0 x1 x2 y0 y1 y2 y3 y4 : Value) :
    ((((((((w1.setCell ⟨w.heap.size, 0, Option.none⟩ x0).setCell ⟨w.heap.size, 1, Option.none⟩ x1).setCell ⟨w.heap.size, 2, Option.none⟩ x2).setCell ⟨w.heap.size + 1, 0, Option.none⟩ y0).setCell ⟨w.heap.size + 1, 1, Option.none⟩ y1).setCell ⟨w.heap.size + 1, 2, Option.none⟩ y2).setCell ⟨w.heap.size + 1, 3, Option.none⟩ y3).setCell ⟨w.heap.size + 1, 4, Option.none⟩ y4).heap[w.heap.size]? = some (.cells #[x0, x1, x2] T (0, 0)) ∧
    ((((((((w1.setCell ⟨w.heap.size, 0, Option.none⟩ x0).setCell ⟨w.heap.size, 1, Option.none⟩ x1).setCell ⟨w.heap.size, 2, Option.none⟩ x2).setCell ⟨w.heap.size + 1, 0, Option.none⟩ y0).setCell ⟨w.heap.size + 1, 1, Option.none⟩ y1).setCell ⟨w.heap.size + 1, 2, Option.none⟩ y2).setCell ⟨w.heap.size + 1, 3, Option.none⟩ y3).setCell ⟨w.heap.size + 1, 4, Option.none⟩ y4).heap[w.heap.size + 1]? = some (.cells #[y0, y1, y2, y3, y4] T' (0, 0)) ∧
    HeapAt ((((((((w1.setCell ⟨w.heap.size, 0, Option.none⟩ x0).setCell ⟨w.heap.size, 1, Option.none⟩ x1).setCell ⟨w.heap.size, 2, Option.none⟩ x2).setCell ⟨w.heap.size + 1, 0, Option.none⟩ y0).setCell ⟨w.heap.size + 1, 1, Option.none⟩ y1).setCell ⟨w.heap.size + 1, 2, Option.none⟩ y2).setCell ⟨w.heap.size + 1, 3, Option.none⟩ y3).setCell ⟨w.heap.size + 1, 4, Option.none⟩ y4) τ' hb H' ∧ Chg (own τ) w ((((((((w1.setCell ⟨w.heap.size, 0, Option.none⟩ x0).setCell ⟨w.heap.size, 1, Option.none⟩ x1).setCell ⟨w.heap.size, 2, Option.none⟩ x2).setCell ⟨w.heap.size + 1, 0, Option.none⟩ y0).setCell ⟨w.heap.size + 1, 1, Option.none⟩ y1).setCell ⟨w.heap.size + 1, 2, Option.none⟩ y2).setCell ⟨w.heap.size + 1, 3, Option.none⟩ y3).setCell ⟨w.heap.size + 1, 4, Option.none⟩ y4) ∧ TagOn w τ τ' := by
  have ho : ∀ b, w.heap.size ≤ b → b < w.heap.size + 2 → own τ' b = false := fun b h1 h2 => by
    have h3 := hT b h2
    cases hx : own τ b with
    | false => simpa [own, h3] using hx
    | true => have := h.olt' b hx; omega
  refine ⟨?_, ?_, hH.chg (ρ := fun b => b == w.heap.size || b == w.heap.size + 1) ?_ ?_, ?_, fun b hb => hT b (by omega)⟩
  · rw [oPutE (by omega)]
    exact putV hv _ _ _
  · exact putE ((oPutV (by omega) _ _ _).trans he) _ _ _ _ _
  · exact ((((((((Chg.refl _ _).setCell (fun _ => by simp) _).setCell (fun _ => by simp) _).setCell (fun _ => by simp) _).setCell (fun _ => by simp) _).setCell (fun _ => by simp) _).setCell (fun _ => by simp) _).setCell (fun _ => by simp) _).setCell (fun _ => by simp) _
  · intro b hb
    simp only [Bool.or_eq_false_iff, beq_eq_false_iff_ne]
    refine ⟨fun e => ?_, fun e => ?_⟩
    · rw [e, ho _ (Nat.le_refl _) (by omega)] at hb; cases hb
    · rw [e, ho _ (by omega) (by omega)] at hb; cases hb
  · have n1 : ∀ {o : Nat}, (⟨w.heap.size, o, Option.none⟩ : Addr).block < w.heap.size → own τ (⟨w.heap.size, o, Option.none⟩ : Addr).block = true := fun h => absurd h (Nat.lt_irrefl _)
    have n2 : ∀ {o : Nat}, (⟨w.heap.size + 1, o, Option.none⟩ : Addr).block < w.heap.size → own τ (⟨w.heap.size + 1, o, Option.none⟩ : Addr).block = true := fun h => absurd h (by show ¬ w.heap.size + 1 < w.heap.size; omega)
    exact (((((((hC.setCell n1 _).setCell n1 _).setCell n1 _).setCell n2 _).setCell n2 _).setCell n2 _).setCell n2 _).setCell n2 _

set_option maxHeartbeats 400000 in
/-- 'fresh': a new list, or tuple: too many items. -/
theorem fresh_big {w : World} (hv0 : Value) (kind : Int) (iv : Value) (items : List V) (hi : RowV w iv items) (hbg : 4096 < items.length) :
    Calls Tryz.prog 112 #[hv0, .int .i64 kind, iv] w fun e w' => e = .returned (.tuple #[V.nul.val, (Ex.raise memErr).val]) ∧ Below w.heap.size w w' := by
  obtain ⟨a, cap, rfl⟩ := hi.slice
  obtain ⟨hv, he⟩ := two_vars w
  go_enter Tryz.func112, Tryz.ntmps112
  go_wp2_with fail
  refine (raise_any _ _).mono ?_
  rintro e w1 ⟨rfl, hB⟩
  have hv1 := (hB.block _ (by simp only [World.size_alloc]; omega)).trans hv
  have he1 := (hB.block _ (by simp only [World.size_alloc]; omega)).trans he
  have hB1 := btr (bal (bal (b0 _) _) _) hB
  obtain ⟨⟨v0, v1, v2⟩, ⟨m0, m1, m2⟩, vl⟩ := factsV hv1
  obtain ⟨⟨e0, e1, e2, e3, e4⟩, ⟨n0, n1, n2, n3, n4⟩, el⟩ := factsE he1
  clear hB hv he hi
  go_wp2
  obtain ⟨f1, f2, f3⟩ := fin_VE hv1 he1 hB1 _ _ _ _ _ _ _ _
  exact ret_VE rfl rfl rfl rfl rfl f1 f2 rfl ⟨rfl, f3⟩

set_option maxHeartbeats 800000 in
/-- 'fresh': a new list, or tuple. -/
theorem fresh_ok {w : World} {τ : Tag} {hb : Nat} {H : PH} (h : HeapAt w τ hb H) (kind : Int) (iv : Value) (items : List V) (hk : 1 ≤ kind ∧ kind ≤ 12) (hi : RowV w iv items) (hlen : items.length ≤ 4096) (hbig : H.last < 1099511627776) :
    Calls Tryz.prog 112 #[.pointer (some ⟨hb, 0, Option.none⟩), .int .i64 kind, iv] w fun e w' =>
      e = .returned (.tuple #[.agg #[.int .i64 4, .int .i64 (H.last + 1), .string ByteArray.empty], Ex.none.val]) ∧ ∃ τ', HeapAt w' τ' hb (H.made kind ByteArray.empty 0 items) ∧ Chg (own τ) w w' ∧ TagOn w τ τ' := by
  obtain ⟨a, cap, rfl⟩ := hi.slice
  obtain ⟨hv, he⟩ := two_vars w
  have hB0 : Below w.heap.size w ((w.alloc (.cells #[.int .i64 0, .int .i64 0, .string ⟨#[]⟩] 24)).alloc (.cells #[.string ⟨#[]⟩, .int .i64 0, .int .i64 0, .string ⟨#[]⟩, .bool false] 33)) := bal (bal (b0 _) _) _
  have h1 := h.below hB0
  have hi1 := hi.chg (ρ := fun _ => false) (Chg.of_below hB0) (fun _ _ => rfl)
  have HB := Lib.hid hbig
  go_enter Tryz.func112, Tryz.ntmps112
  go_wp2_with fail
  refine (Make_any h1 kind ByteArray.empty 0 _ items hk hi1 (by omega) HB.out).mono ?_
  rintro e w1 ⟨rfl, τ', hH', hC', hT'⟩
  have z1 : own τ w.heap.size = false := by
    cases hx : own τ w.heap.size with
    | false => rfl
    | true => have := h.olt' _ hx; omega
  have z2 : own τ (w.heap.size + 1) = false := by
    cases hx : own τ (w.heap.size + 1) with
    | false => rfl
    | true => have := h.olt' _ hx; omega
  have hv1 := (hC'.block _ (by simp only [World.size_alloc]; omega) z1).trans hv
  have he1 := (hC'.block _ (by simp only [World.size_alloc]; omega) z2).trans he
  have hC1 : Chg (own τ) w w1 := (Chg.of_below hB0).trans hC' (fun _ _ h => h)
  have hT1 : ∀ b, b < w.heap.size + 2 → τ' b = τ b := fun b hb => hT' b (by simp only [World.size_alloc]; omega)
  obtain ⟨⟨v0, v1, v2⟩, ⟨m0, m1, m2⟩, vl⟩ := factsV hv1
  obtain ⟨⟨e0, e1, e2, e3, e4⟩, ⟨n0, n1, n2, n3, n4⟩, el⟩ := factsE he1
  clear hv he hi hi1 h1 hB0 hC' hT'
  go_wp2
  obtain ⟨f1, f2, f3⟩ := fin_VE_heap hv1 he1 h hC1 hH' hT1 _ _ _ _ _ _ _ _
  exact ret_VE rfl rfl rfl rfl rfl f1 f2 rfl ⟨rfl, τ', f3⟩

end Go.Proofs.YtjhfjllgjgnmeaaGreat
