/- How the program's heap lies in memory: objects, their items, their dicts; which block belongs to what. -/
import Derived.Test.YtjhfjllgjgnmeaaGreatBase
namespace Go.Proofs.YtjhfjllgjgnmeaaGreat
open Go.RowKit Go.Maps

/-! ### Lists of cells -/
def flat (l : List V) : List Value := l.flatMap V.cells

theorem flat_length (l : List V) : (flat l).length = l.length * 3 := by
  induction l with
  | nil => rfl
  | cons x r ih => simp only [flat, List.flatMap_cons, List.length_append, V.cells_length, List.length_cons] at *; omega

theorem flat_append (a b : List V) : flat (a ++ b) = flat a ++ flat b := by simp [flat]

theorem flat_get (l : List V) (i : Nat) (x : V) (h : l[i]? = some x) : (flat l)[i * 3]? = some (.int .i64 x.k) ∧ (flat l)[i * 3 + 1]? = some (.int .i64 x.n) ∧ (flat l)[i * 3 + 2]? = some (.string x.s) := by
  induction l generalizing i with
  | nil => simp at h
  | cons y r ih =>
    have e : flat (y :: r) = [.int .i64 y.k, .int .i64 y.n, .string y.s] ++ flat r := rfl
    cases i with
    | zero =>
      simp at h
      subst h
      rw [e]
      simp
    | succ j =>
      have h' : r[j]? = some x := by simpa using h
      obtain ⟨h0, h1, h2⟩ := ih j h'
      rw [e]
      refine ⟨?_, ?_, ?_⟩
      · rw [List.getElem?_append_right (by simp; omega)]; simpa [show (j + 1) * 3 - 3 = j * 3 by omega] using h0
      · rw [List.getElem?_append_right (by simp; omega)]; simpa [show (j + 1) * 3 + 1 - 3 = j * 3 + 1 by omega] using h1
      · rw [List.getElem?_append_right (by simp; omega)]; simpa [show (j + 1) * 3 + 2 - 3 = j * 3 + 2 by omega] using h2

/-- A row of a dict: a key, a value, whether it was taken out. -/
structure R where
  k : V
  x : V
  gone : Bool

def R.cells (r : R) : List Value := r.k.cells ++ r.x.cells ++ [.bool r.gone]
def flatR (l : List R) : List Value := l.flatMap R.cells

theorem flatR_length (l : List R) : (flatR l).length = l.length * 7 := by
  induction l with
  | nil => rfl
  | cons x r ih => simp only [flatR, List.flatMap_cons, List.length_append, R.cells, V.cells_length, List.length_cons, List.length_nil] at *; omega

theorem flatR_append (a b : List R) : flatR (a ++ b) = flatR a ++ flatR b := by simp [flatR]

/-! ### A row that belongs to the program -/
theorem ownsRow_same {w w' : World} {base : Nat} {e : TypeId} {size : Nat} {v : Value} {n : Nat} {xs : List Value} (h : w.ownsRow base e size v n xs) (hb : ∀ b, v.ownBlock = some b → w'.heap[b]? = w.heap[b]?) : w'.ownsRow base e size v n xs := by
  obtain ⟨h1, h2⟩ := h
  refine ⟨h1, ?_⟩
  rcases h2 with h2 | ⟨g, cap, cur, hv, hg, hh, r⟩
  · exact Or.inl h2
  · exact Or.inr ⟨g, cap, cur, hv, hg, (hb g (by rw [hv]; rfl)).trans hh, r⟩

theorem ownsRow_base {w : World} {base base' : Nat} {e : TypeId} {size : Nat} {v : Value} {n : Nat} {xs : List Value} (h : w.ownsRow base e size v n xs) (hb : ∀ b, v.ownBlock = some b → base' ≤ b) : w.ownsRow base' e size v n xs := by
  obtain ⟨h1, h2⟩ := h
  refine ⟨h1, ?_⟩
  rcases h2 with h2 | ⟨g, cap, cur, hv, hg, hh, r⟩
  · exact Or.inl h2
  · exact Or.inr ⟨g, cap, cur, hv, hb g (by rw [hv]; rfl), hh, r⟩

/-- What the program owns as a row of values reads as that row. -/
theorem RowV.of_owns {w : World} {base : Nat} {v : Value} {l : List V} (h : w.ownsRow base 24 3 v l.length (flat l)) : RowV w v l := by
  have h0 := h
  obtain ⟨h1, ⟨rfl, hl⟩ | ⟨g, cap, cur, rfl, _⟩⟩ := h
  · exact .inl ⟨List.length_eq_zero_iff.1 hl, .inl rfl⟩
  · refine .inr ⟨g, 0, cap, rfl, fun i x hx => ?_⟩
    obtain ⟨f0, f1, f2⟩ := flat_get l i x hx
    have hi : i < l.length := (List.getElem?_eq_some_iff.1 hx).1
    exact ⟨by rw [Nat.zero_add, h0.cellAt _ (by omega)]; exact f0, by rw [Nat.zero_add, h0.cellAt _ (by omega)]; exact f1, by rw [Nat.zero_add, h0.cellAt _ (by omega)]; exact f2⟩

theorem RowV.same {w w' : World} {v : Value} {l : List V} (h : RowV w v l) (hb : ∀ b, v.ownBlock = some b → w'.heap[b]? = w.heap[b]?) : RowV w' v l := by
  rcases h with h | ⟨b, off, cap, rfl, hc⟩
  · exact .inl h
  · have he := hb b rfl
    refine .inr ⟨b, off, cap, rfl, fun i x hx => ?_⟩
    obtain ⟨c0, c1, c2⟩ := hc i x hx
    exact ⟨(World.cell?_of_block (a := ⟨b, _, none⟩) he).trans c0, (World.cell?_of_block (a := ⟨b, _, none⟩) he).trans c1, (World.cell?_of_block (a := ⟨b, _, none⟩) he).trans c2⟩

theorem RowV.lt {w : World} {v : Value} {l : List V} (h : RowV w v l) (hne : l ≠ []) : ∀ b, v.ownBlock = some b → b < w.heap.size := by
  rcases h with ⟨rfl, _⟩ | ⟨b, off, cap, rfl, hc⟩
  · exact absurd rfl hne
  · intro b' hb'
    cases hb'
    cases l with
    | nil => exact absurd rfl hne
    | cons x r => exact lt_of_cell (hc 0 x rfl).1

theorem RowV.below {B : Nat} {w w' : World} {v : Value} {l : List V} (h : RowV w v l) (hb : Below B w w') (hlt : ∀ b, v.ownBlock = some b → b < B) : RowV w' v l := h.same (fun b e => hb.block b (hlt b e))

theorem RowV.chg {ρ : Nat → Bool} {w w' : World} {v : Value} {l : List V} (h : RowV w v l) (hc : Chg ρ w w') (h0 : ∀ b, v.ownBlock = some b → ρ b = false) : RowV w' v l := by
  by_cases hne : l = []
  · subst hne
    rcases h with h | ⟨b, off, cap, rfl, _⟩
    · exact .inl h
    · exact .inl ⟨rfl, .inr ⟨_, _, rfl⟩⟩
  · exact h.same (fun b e => hc.block b (h.lt hne b e) (h0 b e))

theorem flat_one (l : List V) : ∀ u ∈ flat l, u.oneCell' = true := by
  intro u hu
  obtain ⟨x, _, hx⟩ := List.mem_flatMap.1 hu
  simp only [V.cells, List.mem_cons, List.not_mem_nil, or_false] at hx
  rcases hx with rfl | rfl | rfl <;> rfl

theorem flatR_one (l : List R) : ∀ u ∈ flatR l, u.oneCell' = true := by
  intro u hu
  obtain ⟨x, _, hx⟩ := List.mem_flatMap.1 hu
  simp only [R.cells, V.cells, List.cons_append, List.nil_append, List.mem_cons, List.not_mem_nil, or_false] at hx
  rcases hx with rfl | rfl | rfl | rfl | rfl | rfl | rfl <;> rfl

theorem flat_get_inv (l : List V) (j : Nat) (u : Value) (h : (flat l)[j]? = some u) : ∃ x, l[j / 3]? = some x ∧ (u = .int .i64 x.k ∧ j % 3 = 0 ∨ u = .int .i64 x.n ∧ j % 3 = 1 ∨ u = .string x.s ∧ j % 3 = 2) := by
  have hj : j < (flat l).length := (List.getElem?_eq_some_iff.1 h).1
  rw [flat_length] at hj
  have hq : j / 3 < l.length := by omega
  obtain ⟨f0, f1, f2⟩ := flat_get l (j / 3) l[j / 3] (by simp [hq])
  refine ⟨l[j / 3], by simp [hq], ?_⟩
  have hm : j % 3 = 0 ∨ j % 3 = 1 ∨ j % 3 = 2 := by omega
  rcases hm with hm | hm | hm
  · rw [show j / 3 * 3 = j by omega, h] at f0; exact .inl ⟨Option.some.inj f0, hm⟩
  · rw [show j / 3 * 3 + 1 = j by omega, h] at f1; exact .inr (.inl ⟨Option.some.inj f1, hm⟩)
  · rw [show j / 3 * 3 + 2 = j by omega, h] at f2; exact .inr (.inr ⟨Option.some.inj f2, hm⟩)

theorem SrcIs.of_row {w : World} {v : Value} {l : List V} (h : RowV w v l) : SrcIs w v l.length (flat l) := by
  rcases h with ⟨rfl, rfl | ⟨a, cap, rfl⟩⟩ | ⟨b, off, cap, rfl, hc⟩
  · exact .inl ⟨rfl, rfl, rfl⟩
  · exact .inr ⟨a, cap, rfl, fun j u hj => by simp [flat] at hj⟩
  · refine .inr ⟨_, cap, rfl, fun j u hj => ?_⟩
    obtain ⟨x, hx, hu⟩ := flat_get_inv l j u hj
    obtain ⟨c0, c1, c2⟩ := hc _ x hx
    have ha : (⟨b, off, none⟩ : Addr).add j = ⟨b, off + j, none⟩ := by unfold Addr.add; split <;> simp_all
    rw [ha]
    rcases hu with ⟨rfl, hm⟩ | ⟨rfl, hm⟩ | ⟨rfl, hm⟩
    · rw [show off + j = off + j / 3 * 3 by omega]; exact c0
    · rw [show off + j = off + j / 3 * 3 + 1 by omega]; exact c1
    · rw [show off + j = off + j / 3 * 3 + 2 by omega]; exact c2

theorem ownsRow_slice {w : World} {base : Nat} {e : TypeId} {size : Nat} {v : Value} {n : Nat} {xs : List Value} (h : w.ownsRow base e size v n xs) : ∃ a cap, v = .slice a n cap := by
  obtain ⟨h1, ⟨rfl, rfl⟩ | ⟨g, cap, cur, rfl, _⟩⟩ := h
  · exact ⟨none, 0, rfl⟩
  · exact ⟨_, cap, rfl⟩

/-! ### Dicts -/
def live (rows : List R) : List (V × V) := (rows.filter (fun r => !r.gone)).map (fun r => (r.k, r.x))
def idxOf (rows : List R) (v : V) : Option Nat := rows.findIdx? (fun r => !r.gone && r.k = v)

/-- A tag: which block is what. (n, 0) .. (n, 4): object n, its items, its dict, the dict's map, its rows; (0, 10) .. (0, 12): the heap, its two maps. -/
abbrev Tag := Nat → Option (Int × Nat)

structure DictIs (w : World) (τ : Tag) (n : Int) (db : Nat) (d : List (V × V)) (am : Nat) (rv : Value) (rows : List R) : Prop where
  blk : w.heap[db]? = some (.cells #[.map (some am), rv] 239 (0, 0))
  map : ∃ m, MapAt Tryz.prog 24 w am m d.length ∧ ∀ v : V, m v.val = (idxOf rows v).map (fun i => .int .i64 (i : Int))
  row : w.ownsRow 0 246 7 rv rows.length (flatR rows)
  live : d = live rows
  nodup : (d.map (·.1)).Nodup
  small : rows.length ≤ 8201
  tdb : τ db = some (n, 2)
  tam : τ am = some (n, 3)
  trow : ∀ b, rv.ownBlock = some b → τ b = some (n, 4)

def DictAt (w : World) (τ : Tag) (n : Int) (db : Nat) (d : List (V × V)) : Prop := ∃ am rv rows, DictIs w τ n db d am rv rows

theorem DictIs.same {w w' : World} {τ : Tag} {n : Int} {db : Nat} {d : List (V × V)} {am : Nat} {rv : Value} {rows : List R} (h : DictIs w τ n db d am rv rows)
    (hs : ∀ b, (∃ k, 2 ≤ k ∧ τ b = some (n, k)) → w'.heap[b]? = w.heap[b]?) : DictIs w' τ n db d am rv rows :=
  { h with
    blk := (hs db ⟨2, by omega, h.tdb⟩).trans h.blk
    map := by obtain ⟨m, hm, hv⟩ := h.map; exact ⟨m, hm.same (hs am ⟨3, by omega, h.tam⟩), hv⟩
    row := ownsRow_same h.row (fun b hb => hs b ⟨4, by omega, h.trow b hb⟩) }

/-! ### Objects -/
structure O where
  kind : Int
  name : ByteArray
  num : Int
  items : List V
  d : List (V × V)

structure ObjIs (w : World) (τ : Tag) (n : Int) (o : O) (ob : Nat) (iv : Value) (db : Nat) : Prop where
  blk : w.heap[ob]? = some (.cells #[.int .i64 o.kind, .string o.name, .int .i64 o.num, iv, .pointer (some ⟨db, 0, none⟩)] 178 (0, 0))
  row : w.ownsRow 0 24 3 iv o.items.length (flat o.items)
  dict : DictAt w τ n db o.d
  tob : τ ob = some (n, 0)
  trow : ∀ b, iv.ownBlock = some b → τ b = some (n, 1)
  small : o.items.length ≤ 1073741824
  kind1 : 1 ≤ o.kind
  kind2 : o.kind ≤ 12

def ObjAt (w : World) (τ : Tag) (n : Int) (o : O) (ob : Nat) : Prop := ∃ iv db, ObjIs w τ n o ob iv db

theorem ObjAt.same {w w' : World} {τ : Tag} {n : Int} {o : O} {ob : Nat} (h : ObjAt w τ n o ob) (hs : ∀ b k, τ b = some (n, k) → w'.heap[b]? = w.heap[b]?) : ObjAt w' τ n o ob := by
  obtain ⟨iv, db, h⟩ := h
  refine ⟨iv, db, { h with blk := (hs ob 0 h.tob).trans h.blk, row := ownsRow_same h.row (fun b hb => hs b 1 (h.trow b hb)), dict := ?_ }⟩
  obtain ⟨am, rv, rows, hd⟩ := h.dict
  exact ⟨am, rv, rows, hd.same (fun b ⟨k, _, hk⟩ => hs b k hk)⟩

/-! ### The heap -/
structure PH where
  last : Int
  obj : Int → Option O

structure HeapIs (w : World) (τ : Tag) (hb : Nat) (H : PH) (ma mr : Nat) (pb : Int → Nat) : Prop where
  blk : w.heap[hb]? = some (.cells #[.map (some ma), .map (some mr), .int .i64 H.last] 155 (0, 0))
  all : ∃ m c, MapAt Tryz.prog 2 w ma m c ∧ ∀ n, (Lit.int .i64 n).wf = true → m (.int .i64 n) = (H.obj n).map (fun _ => .pointer (some ⟨pb n, 0, none⟩))
  refs : RefsAt w mr
  obj : ∀ n o, H.obj n = some o → ObjAt w τ n o (pb n)
  range : ∀ n o, H.obj n = some o → 1 ≤ n ∧ n ≤ H.last
  last0 : 0 ≤ H.last
  last1 : H.last ≤ 1099511627776
  thb : τ hb = some (0, 10)
  tma : τ ma = some (0, 11)
  tmr : τ mr = some (0, 12)
  lt : ∀ b, (τ b).isSome = true → b < w.heap.size

def HeapAt (w : World) (τ : Tag) (hb : Nat) (H : PH) : Prop := ∃ ma mr pb, HeapIs w τ hb H ma mr pb

/-- The blocks that a heap owns. -/
def own (τ : Tag) (b : Nat) : Bool := (τ b).isSome

theorem HeapIs.same {w w' : World} {τ : Tag} {hb : Nat} {H : PH} {ma mr : Nat} {pb : Int → Nat} (h : HeapIs w τ hb H ma mr pb) (hz : w.heap.size ≤ w'.heap.size) (hs : ∀ b, own τ b = true → w'.heap[b]? = w.heap[b]?) : HeapIs w' τ hb H ma mr pb :=
  { h with
    blk := (hs hb (by simp [own, h.thb])).trans h.blk
    all := by obtain ⟨m, c, hm, hv⟩ := h.all; exact ⟨m, c, hm.same (hs ma (by simp [own, h.tma])), hv⟩
    refs := h.refs.same (hs mr (by simp [own, h.tmr]))
    obj := fun n o ho => (h.obj n o ho).same (fun b k hk => hs b (by simp [own, hk]))
    lt := fun b hb' => Nat.lt_of_lt_of_le (h.lt b hb') hz }

theorem HeapAt.chg {ρ : Nat → Bool} {w w' : World} {τ : Tag} {hb : Nat} {H : PH} (h : HeapAt w τ hb H) (hc : Chg ρ w w') (hd : ∀ b, own τ b = true → ρ b = false) : HeapAt w' τ hb H := by
  obtain ⟨ma, mr, pb, h⟩ := h
  exact ⟨ma, mr, pb, h.same hc.size (fun b hb => hc.block b (h.lt b hb) (hd b hb))⟩

theorem HeapIs.below {w w' : World} {τ : Tag} {hb : Nat} {H : PH} {ma mr : Nat} {pb : Int → Nat} (h : HeapIs w τ hb H ma mr pb) (hc : Below w.heap.size w w') : HeapIs w' τ hb H ma mr pb :=
  h.same hc.size (fun b hb => hc.block b (h.lt b hb))

theorem HeapAt.below {w w' : World} {τ : Tag} {hb : Nat} {H : PH} (h : HeapAt w τ hb H) (hc : Below w.heap.size w w') : HeapAt w' τ hb H := by
  obtain ⟨ma, mr, pb, h⟩ := h
  exact ⟨ma, mr, pb, h.below hc⟩

/-- The object of a value. -/
def PH.of (H : PH) (v : V) : Option O := if v.k = 4 then H.obj v.n else none

def PH.kind (H : PH) (v : V) : Int := match H.of v with | some o => o.kind | none => 0
def PH.name (H : PH) (v : V) : ByteArray := match H.of v with | some o => o.name | none => ByteArray.empty
def PH.num (H : PH) (v : V) : Int := match H.of v with | some o => o.num | none => 0
def PH.items (H : PH) (v : V) : List V := match H.of v with | some o => o.items | none => []
def PH.d (H : PH) (v : V) : List (V × V) := match H.of v with | some o => o.d | none => []

theorem HeapIs.of {w : World} {τ : Tag} {hb : Nat} {H : PH} {ma mr : Nat} {pb : Int → Nat} (h : HeapIs w τ hb H ma mr pb) {v : V} {o : O} (ho : H.of v = some o) : H.obj v.n = some o ∧ ObjAt w τ v.n o (pb v.n) := by
  unfold PH.of at ho
  split at ho
  · exact ⟨ho, h.obj _ _ ho⟩
  · cases ho

theorem cells_of_block {w : World} {b : Nat} {c : Array Value} {t : TypeId} (h : w.heap[b]? = some (.cells c t (0, 0))) : (∀ o, w.cell? ⟨b, o, none⟩ = c[o]?) ∧ (∀ o, w.frozen? ⟨b, o, none⟩ = false) ∧ b < w.heap.size :=
  ⟨fun o => by simp [World.cell?, h], fun o => by simp [World.frozen?, h], (Array.getElem?_eq_some_iff.1 h).1⟩

end Go.Proofs.YtjhfjllgjgnmeaaGreat
