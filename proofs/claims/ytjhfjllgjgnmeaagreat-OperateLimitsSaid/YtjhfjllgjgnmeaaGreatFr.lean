/- Blocks of a call's own, carried along; regions that draw their order, with all cells of the region's first world at hand. -/
import Derived.Test.YtjhfjllgjgnmeaaGreatBin
namespace Go.Proofs.YtjhfjllgjgnmeaaGreat
open Go.RowKit Go.Maps

/-- Block g of W holds these cells. -/
abbrev Has (W : World) (g : Nat) (cs : Array Value) (T : TypeId) : Prop := W.heap[g]? = some (.cells cs T (0, 0))

section
variable {W W' : World} {g : Nat} {cs : Array Value} {T : TypeId} {ρ : Nat → Bool}
theorem Has.new (w : World) (cs : Array Value) (T : TypeId) : Has (w.alloc (.cells cs T)) w.heap.size cs T := (MapKept.heap_alloc w _).1
theorem Has.lt (h : Has W g cs T) : g < W.heap.size := (Array.getElem?_eq_some_iff.1 h).1
theorem Has.bel (h : Has W g cs T) (hB : Below W.heap.size W W') : Has W' g cs T := (hB.block g h.lt).trans h
theorem Has.alloc (h : Has W g cs T) (o : Obj) : Has (W.alloc o) g cs T := (Below.heap_alloc _ _ _ h.lt).trans h
theorem Has.chg (h : Has W g cs T) (hC : Chg ρ W W') (h0 : ρ g = false) : Has W' g cs T := (hC.block g h.lt h0).trans h
theorem Has.set (h : Has W g cs T) (o : Nat) (u : Value) : Has (W.setCell ⟨g, o, Option.none⟩ u) g (cs.setIfInBounds o u) T := heap_setCell_same h
theorem Has.other (h : Has W g cs T) {g' : Nat} (hne : g ≠ g') (o : Nat) (u : Value) : Has (W.setCell ⟨g', o, Option.none⟩ u) g cs T := (Below.heap_setCell _ _ _ _ hne).trans h
/-- The facts that a walk wants. -/
theorem Has.facts (h : Has W g cs T) : (∀ o, W.cell? ⟨g, o, Option.none⟩ = cs[o]?) ∧ (∀ o, W.frozen? ⟨g, o, Option.none⟩ = false) ∧ g < W.heap.size := cells_of_block h
end

theorem bset {w W : World} {g : Nat} (h : Below w.heap.size w W) (hg : w.heap.size ≤ g) (o : Nat) (u : Value) : Below w.heap.size w (W.setCell ⟨g, o, Option.none⟩ u) := h.setCell (p := ⟨g, o, Option.none⟩) hg u

theorem RowV.ofO {w W : World} {v : Value} {l : List V} (h : OwnsV w W v l) : RowV W v l := RowV.of_owns (ownsRow_base h (fun _ _ => Nat.zero_le _))
theorem undrewR (w : World) : Below w.heap.size w w.drew := (b0 w).drew
/-- All cells of a region's first world, in a world that comes of it. -/
theorem Chg.all {ρ : Nat → Bool} {w W : World} (h : Chg ρ w.drew W) : ∀ b o, b < w.heap.size → ρ b = false → W.cell? ⟨b, o, Option.none⟩ = w.cell? ⟨b, o, Option.none⟩ := fun _ _ hb h0 => h.cell (w := w.drew) hb h0
theorem Chg.allF {w W : World} (h : Chg (fun _ => false) w.drew W) : ∀ b o, b < w.heap.size → W.cell? ⟨b, o, Option.none⟩ = w.cell? ⟨b, o, Option.none⟩ := fun _ _ hb => h.cell (w := w.drew) hb rfl
/-- A world that comes of a region that writes nothing that was there. -/
theorem Chg.belowF {w W : World} (h : Chg (fun _ => false) w.drew W) : Below w.heap.size w W := ⟨h.os, h.tape, h.output, h.size, fun j hj => h.block j hj rfl⟩

/-- The heap, where nothing of it has turned. -/
theorem own_new {w : World} {τ : Tag} {hb : Nat} {H : PH} (h : HeapAt w τ hb H) : ∀ b, w.heap.size ≤ b → own τ b = false := fun b hb' => by
  cases hx : own τ b with
  | false => rfl
  | true => have := h.olt' b hx; omega

/-- Two new variables. -/
theorem two_new {w : World} (W : World) (cs ds : Array Value) (T T' : TypeId) (hB : Below w.heap.size w W) : Has ((W.alloc (.cells cs T)).alloc (.cells ds T')) W.heap.size cs T ∧ Has ((W.alloc (.cells cs T)).alloc (.cells ds T')) (W.heap.size + 1) ds T' ∧ Below w.heap.size w ((W.alloc (.cells cs T)).alloc (.cells ds T')) ∧ Below W.heap.size W ((W.alloc (.cells cs T)).alloc (.cells ds T')) :=
  ⟨(Has.new W cs T).alloc _, by simpa using Has.new (W.alloc (.cells cs T)) ds T', bal (bal hB _) _, bal (bal (b0 _) _) _⟩

theorem pi_end {P : Program} {Q : Exit → Act → World → Prop} {S : World → Prop} {n : Nat} {a : Act} {w : World} {l : List Oper} (h : wpList P l.toArray Q (l.drop n) a w) : wpPi P l.toArray Q S n [] a w := h

/-- Blocks of the call's own have turned, or such of its heap. -/
theorem belChg {ρ : Nat → Bool} {w W W' : World} (h : Below w.heap.size w W) (hC : Chg ρ W W') (ho : ∀ b, ρ b = true → w.heap.size ≤ b) : Below w.heap.size w W' :=
  ⟨hC.os.trans h.os, hC.tape.trans h.tape, hC.output.trans h.output, Nat.le_trans h.size hC.size, fun b hb => (hC.block b (Nat.lt_of_lt_of_le hb h.size) (by
    cases hx : ρ b with
    | false => rfl
    | true => have := ho b hx; omega)).trans (h.block b hb)⟩

/-- A heap of the call's own stays one. -/
theorem ownOn {w W : World} {τ τ' : Tag} (hs : w.heap.size ≤ W.heap.size) (hT : TagOn W τ τ') (ho : ∀ b, own τ b = true → w.heap.size ≤ b) : ∀ b, own τ' b = true → w.heap.size ≤ b := fun b hb => by
  by_cases hlt : b < W.heap.size
  · exact ho b (by rw [← hb, own, own, hT b hlt])
  · omega

/-- An api.Value stored into a variable of the call's own. -/
theorem stV {w W : World} {g : Nat} {o0 o1 o2 : Value} {T : TypeId} (h : Has W g #[o0, o1, o2] T) (hB : Below w.heap.size w W) (hg : w.heap.size ≤ g) (x0 x1 x2 : Value) :
    Has (((W.setCell ⟨g, 0, Option.none⟩ x0).setCell ⟨g, 1, Option.none⟩ x1).setCell ⟨g, 2, Option.none⟩ x2) g #[x0, x1, x2] T ∧ Below w.heap.size w (((W.setCell ⟨g, 0, Option.none⟩ x0).setCell ⟨g, 1, Option.none⟩ x1).setCell ⟨g, 2, Option.none⟩ x2) ∧ Chg (fun b => b == g) W (((W.setCell ⟨g, 0, Option.none⟩ x0).setCell ⟨g, 1, Option.none⟩ x1).setCell ⟨g, 2, Option.none⟩ x2) :=
  ⟨putV h _ _ _, bset (bset (bset hB hg _ _) hg _ _) hg _ _, (((Chg.refl _ _).setCell (fun _ => by simp) _).setCell (fun _ => by simp) _).setCell (fun _ => by simp) _⟩

theorem stVc {W : World} {g : Nat} {o0 o1 o2 : Value} {T : TypeId} (h : Has W g #[o0, o1, o2] T) (x0 x1 x2 : Value) :
    Has (((W.setCell ⟨g, 0, Option.none⟩ x0).setCell ⟨g, 1, Option.none⟩ x1).setCell ⟨g, 2, Option.none⟩ x2) g #[x0, x1, x2] T ∧ Chg (fun b => b == g) W (((W.setCell ⟨g, 0, Option.none⟩ x0).setCell ⟨g, 1, Option.none⟩ x1).setCell ⟨g, 2, Option.none⟩ x2) :=
  ⟨putV h _ _ _, (((Chg.refl _ _).setCell (fun _ => by simp) _).setCell (fun _ => by simp) _).setCell (fun _ => by simp) _⟩
theorem stEc {W : World} {g : Nat} {o0 o1 o2 o3 o4 : Value} {T : TypeId} (h : Has W g #[o0, o1, o2, o3, o4] T) (x0 x1 x2 x3 x4 : Value) :
    Has (((((W.setCell ⟨g, 0, Option.none⟩ x0).setCell ⟨g, 1, Option.none⟩ x1).setCell ⟨g, 2, Option.none⟩ x2).setCell ⟨g, 3, Option.none⟩ x3).setCell ⟨g, 4, Option.none⟩ x4) g #[x0, x1, x2, x3, x4] T ∧ Chg (fun b => b == g) W (((((W.setCell ⟨g, 0, Option.none⟩ x0).setCell ⟨g, 1, Option.none⟩ x1).setCell ⟨g, 2, Option.none⟩ x2).setCell ⟨g, 3, Option.none⟩ x3).setCell ⟨g, 4, Option.none⟩ x4) :=
  ⟨putE h _ _ _ _ _, (((((Chg.refl _ _).setCell (fun _ => by simp) _).setCell (fun _ => by simp) _).setCell (fun _ => by simp) _).setCell (fun _ => by simp) _).setCell (fun _ => by simp) _⟩

/-- An api.Exc stored into a variable of the call's own. -/
theorem stE {w W : World} {g : Nat} {o0 o1 o2 o3 o4 : Value} {T : TypeId} (h : Has W g #[o0, o1, o2, o3, o4] T) (hB : Below w.heap.size w W) (hg : w.heap.size ≤ g) (x0 x1 x2 x3 x4 : Value) :
    Has (((((W.setCell ⟨g, 0, Option.none⟩ x0).setCell ⟨g, 1, Option.none⟩ x1).setCell ⟨g, 2, Option.none⟩ x2).setCell ⟨g, 3, Option.none⟩ x3).setCell ⟨g, 4, Option.none⟩ x4) g #[x0, x1, x2, x3, x4] T ∧ Below w.heap.size w (((((W.setCell ⟨g, 0, Option.none⟩ x0).setCell ⟨g, 1, Option.none⟩ x1).setCell ⟨g, 2, Option.none⟩ x2).setCell ⟨g, 3, Option.none⟩ x3).setCell ⟨g, 4, Option.none⟩ x4) ∧ Chg (fun b => b == g) W (((((W.setCell ⟨g, 0, Option.none⟩ x0).setCell ⟨g, 1, Option.none⟩ x1).setCell ⟨g, 2, Option.none⟩ x2).setCell ⟨g, 3, Option.none⟩ x3).setCell ⟨g, 4, Option.none⟩ x4) :=
  ⟨putE h _ _ _ _ _, bset (bset (bset (bset (bset hB hg _ _) hg _ _) hg _ _) hg _ _) hg _ _, (((((Chg.refl _ _).setCell (fun _ => by simp) _).setCell (fun _ => by simp) _).setCell (fun _ => by simp) _).setCell (fun _ => by simp) _).setCell (fun _ => by simp) _⟩

/-- A variable of the call's own has turned: not the heap. -/
theorem heapSt {W W' : World} {τ : Tag} {hb : Nat} {H : PH} {g : Nat} (h : HeapAt W τ hb H) (hC : Chg (fun b => b == g) W W') (ho : own τ g = false) : HeapAt W' τ hb H :=
  h.chg hC (fun b hb' => by
    simp only [beq_eq_false_iff_ne]
    rintro rfl
    rw [ho] at hb'
    cases hb')
theorem Has.st {W W' : World} {g j : Nat} {cs : Array Value} {T : TypeId} (h : Has W j cs T) (hC : Chg (fun b => b == g) W W') (hne : j ≠ g) : Has W' j cs T := h.chg hC (by simpa using hne)

end Go.Proofs.YtjhfjllgjgnmeaaGreat
