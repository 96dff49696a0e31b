/- The values of package api as Lean data, their keys, and what a call may change: the words that all later texts share. -/
import Derived.Test.YtjhfjllgjgnmeaaGreatProg
import Derived.Test.YtjhfjllgjgnmeaaGreatMap
import Derived.DeepKeys4
import Derived.WalkKit
import Derived.WalkSpells
import Derived.WalkLawsBesides
import Derived.Deep.QuietTactic
import Derived.BigQuiet
import Derived.Deep.RegionHeld3
import Derived.StillTailTactics
import Derived.Lib.Hide
import Derived.Lib.SliceRun
import Derived.Laws.AppendOwnNone
namespace Go.Proofs.YtjhfjllgjgnmeaaGreat
open Go.RowKit Go.Maps

/-! ### api.Value, api.Exc -/

/-- api.Value, whatever it is. -/
structure V where
  k : Int
  n : Int
  s : ByteArray
  hk : (Lit.int .i64 k).wf = true
  hn : (Lit.int .i64 n).wf = true
  hs : s.size ≤ maxLen

abbrev V.val (v : V) : Value := .agg #[.int .i64 v.k, .int .i64 v.n, .string v.s]
def V.cells (v : V) : List Value := [.int .i64 v.k, .int .i64 v.n, .string v.s]

theorem V.ext' {a b : V} (h1 : a.k = b.k) (h2 : a.n = b.n) (h3 : a.s = b.s) : a = b := by
  cases a; cases b; simp at *; simp [*]

instance : DecidableEq V := fun a b =>
  if h : a.k = b.k ∧ a.n = b.n ∧ a.s = b.s then isTrue (V.ext' h.1 h.2.1 h.2.2) else isFalse (fun e => h (by subst e; simp))

theorem V.val_inj {a b : V} (h : a.val = b.val) : a = b := by
  simp only [V.val, Value.agg.injEq, Array.mk.injEq, List.cons.injEq, Value.int.injEq, Value.string.injEq, true_and, and_true] at h
  exact V.ext' h.1 h.2.1 h.2.2

theorem V.cells_length (v : V) : v.cells.length = 3 := rfl

/-- 'api.Value{}'. -/
def V.zero : V := ⟨0, 0, ByteArray.empty, by decide, by decide, by decide⟩

/-! ### Keys -/
theorem keyedI : Keyed Tryz.prog 2 := int_keyed Tryz.underlying2
theorem rowV : (24 : TypeId) < Tryz.prog.types.size := of_decide_eq_true (by kernel_rfl)
theorem laidOut : laidOutB Tryz.prog = true := by kernel_rfl
theorem keyTypeV : Tryz.prog.keyTypeAt 2 24 = true := by kernel_rfl
theorem lawV : WideMaps.KeyLaw Tryz.prog 24 := deep_law_laid laidOut (m := 2) (by omega) rowV keyTypeV (by rw [Tryz.underlying24])
theorem keyedV : Keyed Tryz.prog 24 := Keyed.of_law lawV

theorem keyOfI {n : Int} (h : (Lit.int .i64 n).wf = true) : keyOf Tryz.prog 2 (.int .i64 n) = some (.int .i64 n) := keyOf_int_mk Tryz.underlying2 h

theorem keyTypeV' : Tryz.prog.keyType 24 = true := by kernel_rfl
theorem cellsOfV : Tryz.prog.cellsOf 24 = 3 := by kernel_rfl
theorem cellsOfI : Tryz.prog.cellsOf 2 = 1 := by kernel_rfl
theorem cellsOfInt : Tryz.prog.cellsOf 3 = 1 := by kernel_rfl
theorem cellsOfStr : Tryz.prog.cellsOf 9 = 1 := by kernel_rfl
theorem keyLitsV (v : V) (m : Nat) : ∃ l, Tryz.prog.keyLits (m + 2) 24 [.int .i64 v.k, .int .i64 v.n, .string v.s] = some l := by
  simp [Program.keyLits, Tryz.underlying24, Tryz.underlying2, Tryz.underlying3, Tryz.underlying9, cellsOfV, cellsOfI, cellsOfInt, cellsOfStr, v.hk, v.hn, v.hs]
theorem keyOfV (v : V) : ∃ l, keyOf Tryz.prog 24 v.val = some l := by
  have h1 : ∃ m, Tryz.prog.types.size + 1 = m + 2 := ⟨Tryz.prog.types.size - 1, by have : 0 < Tryz.prog.types.size := Nat.lt_of_le_of_lt (Nat.zero_le _) rowV; omega⟩
  obtain ⟨m, hm⟩ := h1
  obtain ⟨l, hl⟩ := keyLitsV v m
  unfold keyOf
  rw [Tryz.underlying24, hm]
  refine ⟨.string (keyBytes l), ?_⟩
  simp [keyTypeV', Value.formed, Tryz.underlying24, cellsOfV, Value.cells, hl]

/-! ### Regions that draw their order -/

/-- 'wp_region_still_tail' in the walk's own spelling of the world behind the draw. -/
theorem wp_region_tail {P : Program} {id : Nat} {Q : Exit → Act → World → Prop} {a : Act} {w : World} {l : List Oper} (n : Nat) (hm : P.follows .mixedOrders = true) (hB : Region.lexTailB .any l.toArray n = true)
    (h : wpStill P l.toArray w.drew (fun a' => wpList P l.toArray Q (l.drop n) a' w.drew) (l.take n) a) : (Code.region id l.toArray true).wp P Q a w := wp_region_still_tail n hm hB h

/-! ### What a call may change -/

/-- w' is w with new blocks, and writes to blocks of ρ alone. -/
structure Chg (ρ : Nat → Bool) (w w' : World) : Prop where
  os : w'.os = w.os
  tape : w'.tape = w.tape
  output : w'.output = w.output
  size : w.heap.size ≤ w'.heap.size
  block : ∀ b, b < w.heap.size → ρ b = false → w'.heap[b]? = w.heap[b]?

section
variable {ρ ρ' : Nat → Bool} {w w' w'' : World}

theorem Chg.refl (ρ : Nat → Bool) (w : World) : Chg ρ w w := ⟨rfl, rfl, rfl, Nat.le_refl _, fun _ _ _ => rfl⟩

/-- Two calls: the second one may also write what the first one has made. -/
theorem Chg.trans (h : Chg ρ w w') (k : Chg ρ' w' w'') (hs : ∀ b, b < w.heap.size → ρ' b = true → ρ b = true) : Chg ρ w w'' :=
  ⟨k.os.trans h.os, k.tape.trans h.tape, k.output.trans h.output, Nat.le_trans h.size k.size, fun b hb hr => by
    refine (k.block b (Nat.lt_of_lt_of_le hb h.size) ?_).trans (h.block b hb hr)
    cases hc : ρ' b
    · rfl
    · rw [hs b hb hc] at hr; cases hr⟩

theorem Chg.mono (h : Chg ρ w w') (hs : ∀ b, b < w.heap.size → ρ b = true → ρ' b = true) : Chg ρ' w w' := (Chg.refl ρ' w).trans h hs

theorem Chg.of_below (h : Below w.heap.size w w') : Chg ρ w w' := ⟨h.os, h.tape, h.output, h.size, fun b hb _ => h.block b hb⟩
theorem Chg.below (h : Chg ρ w w') (hs : ∀ b, b < w.heap.size → ρ b = false) : Below w.heap.size w w' := ⟨h.os, h.tape, h.output, h.size, fun b hb => h.block b hb (hs b hb)⟩
theorem Chg.of_grownBy {r : Option Nat} (h : w.grownBy w' r) (hr : ∀ k, r = some k → k < w.heap.size → ρ k = true) : Chg ρ w w' :=
  ⟨h.os, h.tape, h.output, h.size, fun b hb h0 => h.block b hb (fun e => by rw [hr b e.symm hb] at h0; cases h0)⟩
theorem Chg.grown {r : Option Nat} (h : Chg ρ w w') (g : w'.grownBy w'' r) (hr : ∀ k, r = some k → k < w.heap.size → ρ k = true) : Chg ρ w w'' :=
  ⟨g.os.trans h.os, g.tape.trans h.tape, g.output.trans h.output, Nat.le_trans h.size g.size, fun b hb h0 =>
    (g.block b (Nat.lt_of_lt_of_le hb h.size) (fun e => by rw [hr b e.symm hb] at h0; cases h0)).trans (h.block b hb h0)⟩
theorem Chg.alloc (h : Chg ρ w w') (o : Obj) : Chg ρ w (w'.alloc o) := h.grown (World.grownBy_alloc w' o none) (by simp)
theorem Chg.drew (h : Chg ρ w w') : Chg ρ w w'.drew := ⟨h.os, h.tape, h.output, h.size, h.block⟩
theorem Chg.drewN (h : Chg ρ w w') (n : Nat) : Chg ρ w (w'.drewN n) := ⟨h.os, h.tape, h.output, h.size, h.block⟩
theorem Chg.setCell (h : Chg ρ w w') {p : Addr} (hp : p.block < w.heap.size → ρ p.block = true) (u : Value) : Chg ρ w (w'.setCell p u) :=
  ⟨h.os, h.tape, h.output, by simpa using h.size, fun b hb h0 => by
    rw [Below.heap_setCell _ _ _ _ (fun e => by subst e; rw [hp hb] at h0; cases h0)]
    exact h.block b hb h0⟩
theorem Chg.cell (h : Chg ρ w w') {b o : Nat} (hb : b < w.heap.size) (h0 : ρ b = false) : w'.cell? ⟨b, o, none⟩ = w.cell? ⟨b, o, none⟩ := World.cell?_of_block (h.block b hb h0)
theorem Chg.frozen (h : Chg ρ w w') {b o : Nat} (hb : b < w.heap.size) (h0 : ρ b = false) : w'.frozen? ⟨b, o, none⟩ = w.frozen? ⟨b, o, none⟩ := World.frozen?_of_block (h.block b hb h0)
end

theorem bdN {B : Nat} {w w' : World} (h : Below B w w') (n : Nat) : Below B w (w'.drewN n) := ⟨h.os, h.tape, h.output, h.size, h.block⟩
theorem b0 (w : World) : Below w.heap.size w w := Below.refl _ _
theorem bal {w w' : World} (h : Below w.heap.size w w') (o : Obj) : Below w.heap.size w (w'.alloc o) := h.alloc h.size o
/-- Two calls, one behind the other. -/
theorem btr {w w' w'' : World} (h : Below w.heap.size w w') (k : Below w'.heap.size w' w'') : Below w.heap.size w w'' := h.trans (k.mono h.size)

/-! ### Rows of values -/

/-- Slice value v reads in w as the row l of api.Value. -/
def RowV (w : World) (v : Value) (l : List V) : Prop :=
  (l = [] ∧ (v = .slice none 0 0 ∨ ∃ a cap, v = .slice (some a) 0 cap)) ∨
  ∃ b off cap, v = .slice (some ⟨b, off, none⟩) l.length cap ∧ ∀ i x, l[i]? = some x →
    w.cell? ⟨b, off + i * 3, none⟩ = some (.int .i64 x.k) ∧ w.cell? ⟨b, off + i * 3 + 1, none⟩ = some (.int .i64 x.n) ∧ w.cell? ⟨b, off + i * 3 + 2, none⟩ = some (.string x.s)

/-- Slice value v can be appended: m elements, these cells. -/
def SrcIs (w : World) (v : Value) (m : Nat) (news : List Value) : Prop :=
  (v = .slice none 0 0 ∧ m = 0 ∧ news = []) ∨ ∃ a c, v = .slice (some a) m c ∧ ∀ j u, news[j]? = some u → w.cell? (a.add j) = some u

theorem SrcIs.of_owns {w : World} {base : Nat} {e : TypeId} {size : Nat} {v : Value} {n : Nat} {xs : List Value} (h : w.ownsRow base e size v n xs) : SrcIs w v n xs := by
  have h0 := h
  obtain ⟨h1, ⟨rfl, rfl⟩ | ⟨g, cap, cur, rfl, _⟩⟩ := h
  · exact .inl ⟨rfl, rfl, List.length_eq_zero_iff.1 (by simpa using h1)⟩
  · exact .inr ⟨_, cap, rfl, fun j u hj => h0.cells rfl j u hj⟩

/-- 'append(s, x...)', s the program's own, x whatever it is: at the operation. -/
theorem wpList_append_src {P : Program} {w : World} {ops : Array Oper} {rest : List Oper} {o : Oper} {a : Act} {Q : Exit → Act → World → Prop} (hgd : o.guard = none) (s x : Operand) (t : TypeId)
    (ho : o.op = .call { callee := .builtin .append, args := #[s, x], argTypes := #[t, t] })
    (base : Nat) (e : TypeId) (i : TypeInfo) (z : Value) (size bytes : Nat) (ht : P.underlying t = some (.slice e)) (hi : P.info? e = some i) (hz : i.zero = some z)
    (hsize : i.size = size) (hby : i.bytes = bytes) (hzs : z.cells.size = size) (hsz : 0 < size)
    (v : Value) (n : Nat) (xs : List Value) (hs : a.eval s = v) (hown : w.ownsRow base e size v n xs)
    (src : Value) (m : Nat) (news : List Value) (hx : a.eval x = src) (hl : news.length = m * size) (hsrc : SrcIs w src m news) (h1 : ∀ u ∈ news, u.oneCell' = true)
    (h63 : n + m ≤ maxLen) (hbytes : (n + m) * bytes ≤ 140737488355328) (hbase : base ≤ w.heap.size)
    (h : ∀ v' w', w'.ownsRow base e size v' (n + m) (xs ++ news) → w.grownBy w' v.ownBlock → (v' = .slice none 0 0 ↔ v = .slice none 0 0 ∧ m = 0) → wpList P ops Q rest (a.put o.dst v') w') : wpList P ops Q (o :: rest) a w := by
  rcases hsrc with ⟨rfl, rfl, rfl⟩ | ⟨ad, c, rfl, hnews⟩
  · refine wpList_append_own_none hgd s x t ho base e i size ht hi v n xs hs hown hx (h v w (by simpa using hown) ⟨rfl, rfl, rfl, Nat.le_refl _, fun _ _ _ => rfl⟩ ?_)
    simp
  · exact wpList_append_own w hgd s x t ho base e i z size bytes ht hi hz hsize hby hzs hsz v n xs hs hown ad m c news hx hl hnews h1 h63 hbytes hbase h

/-- 's == nil' of a row of values. -/
theorem eqlNilV (W : World) (a : Option Addr) (n c : Nat) : (binOp .eql 59 (.slice a n c) (.slice none 0 0)).run Tryz.prog W = .ok (.bool a.isNone) W := Lib.run_eql_slice_nil W _ _ _ _ _ _ _ Tryz.underlying59

theorem infoV : (Tryz.prog.info? 24).map (fun i => (i.zero, i.size, i.bytes)) = some (some (.agg #[.int .i64 0, .int .i64 0, .string ByteArray.empty]), 3, 32) := by kernel_rfl

theorem MapAt.ne_cell {P : Program} {k : TypeId} {w : World} {r : Nat} {m : Value → Option Value} {c : Nat} (h : MapAt P k w r m c) {b o : Nat} {v : Value} (hc : w.cell? ⟨b, o, none⟩ = some v) : b ≠ r := by
  obtain ⟨es, clock, hb, _⟩ := h
  rintro rfl
  simp [World.cell?, hb] at hc

/-- Block r is the map that counts how often values are held: its values are ints. -/
def RefsAt (w : World) (r : Nat) : Prop :=
  ∃ m c, MapAt Tryz.prog 2 w r m c ∧ ∀ x v, m x = some v → ∃ i, v = .int .i64 i

theorem RefsAt.ne_cell {w : World} {r : Nat} (h : RefsAt w r) {b o : Nat} {v : Value} (hc : w.cell? ⟨b, o, none⟩ = some v) : b ≠ r := by
  obtain ⟨m, c, hm, _⟩ := h
  exact hm.ne_cell hc
theorem RefsAt.lt {w : World} {r : Nat} (h : RefsAt w r) : r < w.heap.size := by
  obtain ⟨m, c, hm, _⟩ := h
  exact hm.lt
theorem RefsAt.same {w w' : World} {r : Nat} (h : RefsAt w r) (he : w'.heap[r]? = w.heap[r]?) : RefsAt w' r := by
  obtain ⟨m, c, hm, hv⟩ := h
  exact ⟨m, c, hm.same he, hv⟩
theorem lt_of_cell {w : World} {b o : Nat} {v : Value} (h : w.cell? ⟨b, o, none⟩ = some v) : b < w.heap.size := World.block_lt_of_cell? w ⟨b, o, none⟩ h

end Go.Proofs.YtjhfjllgjgnmeaaGreat
