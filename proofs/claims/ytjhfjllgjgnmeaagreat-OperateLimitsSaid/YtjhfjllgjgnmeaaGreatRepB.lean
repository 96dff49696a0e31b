/- How the program's heap changes: an object is made, or turned; the last number moves on. -/
import Derived.Test.YtjhfjllgjgnmeaaGreatRep
namespace Go.Proofs.YtjhfjllgjgnmeaaGreat
open Go.RowKit Go.Maps

theorem ownsRow_base' {w : World} {base base' : Nat} {e : TypeId} {size : Nat} {v : Value} {n : Nat} {xs : List Value} (h : w.ownsRow base e size v n xs) (hb : base' ≤ base) : w.ownsRow base' e size v n xs := by
  obtain ⟨h1, h2 | ⟨g, c, cur, e1, hg, r⟩⟩ := h
  · exact ⟨h1, .inl h2⟩
  · exact ⟨h1, .inr ⟨g, c, cur, e1, Nat.le_trans hb hg, r⟩⟩

/-- A function turned at one place. -/
def upd {α : Type} (f : Int → α) (n : Int) (v : α) : Int → α := fun k => if k = n then v else f k
theorem upd_same {α : Type} (f : Int → α) (n : Int) (v : α) : upd f n v n = v := by simp [upd]
theorem upd_other {α : Type} (f : Int → α) {n k : Int} (v : α) (h : k ≠ n) : upd f n v k = f k := by simp [upd, h]
theorem upd_self {α : Type} (f : Int → α) (n : Int) : upd f n (f n) = f := by funext k; unfold upd; split <;> simp_all

theorem DictIs.move {w w' : World} {τ τ' : Tag} {n : Int} {db : Nat} {d : List (V × V)} {am : Nat} {rv : Value} {rows : List R} (h : DictIs w τ n db d am rv rows)
    (hs : ∀ b k, τ b = some (n, k) → 2 ≤ k → w'.heap[b]? = w.heap[b]? ∧ τ' b = τ b) : DictIs w' τ' n db d am rv rows :=
  { h with
    blk := (hs db 2 h.tdb (by omega)).1.trans h.blk
    map := by obtain ⟨m, hm, hv⟩ := h.map; exact ⟨m, hm.same (hs am 3 h.tam (by omega)).1, hv⟩
    row := ownsRow_same h.row (fun b hb => (hs b 4 (h.trow b hb) (by omega)).1)
    tdb := (hs db 2 h.tdb (by omega)).2.trans h.tdb
    tam := (hs am 3 h.tam (by omega)).2.trans h.tam
    trow := fun b hb => (hs b 4 (h.trow b hb) (by omega)).2.trans (h.trow b hb) }

theorem DictAt.move {w w' : World} {τ τ' : Tag} {n : Int} {db : Nat} {d : List (V × V)} (h : DictAt w τ n db d)
    (hs : ∀ b k, τ b = some (n, k) → 2 ≤ k → w'.heap[b]? = w.heap[b]? ∧ τ' b = τ b) : DictAt w' τ' n db d := by
  obtain ⟨am, rv, rows, h⟩ := h
  exact ⟨am, rv, rows, h.move hs⟩

theorem ObjAt.move {w w' : World} {τ τ' : Tag} {n : Int} {o : O} {ob : Nat} (h : ObjAt w τ n o ob) (hs : ∀ b k, τ b = some (n, k) → w'.heap[b]? = w.heap[b]? ∧ τ' b = τ b) : ObjAt w' τ' n o ob := by
  obtain ⟨iv, db, h⟩ := h
  refine ⟨iv, db, { h with blk := (hs ob 0 h.tob).1.trans h.blk, row := ownsRow_same h.row (fun b hb => (hs b 1 (h.trow b hb)).1), dict := h.dict.move (fun b k hk _ => hs b k hk), tob := (hs ob 0 h.tob).2.trans h.tob, trow := fun b hb => (hs b 1 (h.trow b hb)).2.trans (h.trow b hb) }⟩

/-- The tags of one heap, as it goes on: those of blocks that were there stay. -/
def TagOn (w : World) (τ τ' : Tag) : Prop := ∀ b, b < w.heap.size → τ' b = τ b

theorem TagOn.refl (w : World) (τ : Tag) : TagOn w τ τ := fun _ _ => rfl
theorem TagOn.trans {w w' : World} {τ τ' τ'' : Tag} (h : TagOn w τ τ') (k : TagOn w' τ' τ'') (hz : w.heap.size ≤ w'.heap.size) : TagOn w τ τ'' := fun b hb => (k b (Nat.lt_of_lt_of_le hb hz)).trans (h b hb)

/-- An object is put (a new one, or another one in its place). -/
theorem HeapIs.put {w w' : World} {τ τ' : Tag} {hb : Nat} {H : PH} {ma mr : Nat} {pb : Int → Nat} (h : HeapIs w τ hb H ma mr pb) (n : Int) (o : O) (ob : Nat) (tg : ∀ b t, τ b = some t → τ' b = τ b) (hlt : ∀ b, (τ' b).isSome = true → b < w'.heap.size)
    (hn1 : 1 ≤ n) (hn2 : n ≤ H.last) (hs : ∀ b t, τ b = some t → t.1 ≠ n → t ≠ (0, 11) → t ≠ (0, 12) → w'.heap[b]? = w.heap[b]?) (hr : RefsAt w' mr)
    (ha : ∃ m c, MapAt Tryz.prog 2 w' ma m c ∧ ∀ k, (Lit.int .i64 k).wf = true → m (.int .i64 k) = ((upd H.obj n (some o)) k).map (fun _ => .pointer (some ⟨upd pb n ob k, 0, none⟩)))
    (ho : ObjAt w' τ' n o ob) : HeapIs w' τ' hb ⟨H.last, upd H.obj n (some o)⟩ ma mr (upd pb n ob) := by
  have h0 : (0 : Int) ≠ n := by omega
  refine { blk := (hs hb _ h.thb h0 (by simp) (by simp)).trans h.blk, all := ha, refs := hr, obj := fun k o' hk => ?_, range := fun k o' hk => ?_, last0 := h.last0, last1 := h.last1, thb := (tg _ _ h.thb).trans h.thb, tma := (tg _ _ h.tma).trans h.tma, tmr := (tg _ _ h.tmr).trans h.tmr, lt := hlt }
  · replace hk : upd H.obj n (some o) k = some o' := hk
    by_cases e : k = n
    · subst e
      rw [upd_same] at hk
      cases hk
      rw [upd_same]
      exact ho
    · rw [upd_other _ _ e] at hk
      rw [upd_other _ _ e]
      refine (h.obj k o' hk).move (fun b j hj => ⟨hs b _ hj e ?_ ?_, tg b _ hj⟩)
      · have := (h.range k o' hk).1
        intro e2
        simp only [Prod.mk.injEq] at e2
        omega
      · have := (h.range k o' hk).1
        intro e2
        simp only [Prod.mk.injEq] at e2
        omega
  · replace hk : upd H.obj n (some o) k = some o' := hk
    by_cases e : k = n
    · subst e; exact ⟨hn1, hn2⟩
    · rw [upd_other _ _ e] at hk
      exact h.range k o' hk

/-- The last number moves on. -/
theorem HeapIs.next {w : World} {τ : Tag} {hb : Nat} {H : PH} {ma mr : Nat} {pb : Int → Nat} (h : HeapIs w τ hb H ma mr pb) (hl : H.last + 1 ≤ 1099511627776) :
    HeapIs (w.setCell ⟨hb, 2, none⟩ (.int .i64 (H.last + 1))) τ hb ⟨H.last + 1, H.obj⟩ ma mr pb := by
  have hs : ∀ b, b ≠ hb → (w.setCell ⟨hb, 2, none⟩ (.int .i64 (H.last + 1))).heap[b]? = w.heap[b]? := fun b hb' => Below.heap_setCell _ _ _ _ hb'
  have ne : ∀ b t, τ b = some t → t ≠ (0, 10) → b ≠ hb := fun b t hbt hne e => by
    subst e
    rw [h.thb] at hbt
    exact hne (Option.some.inj hbt).symm
  refine { blk := ?_, all := ?_, refs := h.refs.same (hs mr (ne mr _ h.tmr (by simp))), obj := fun n o ho => ?_, range := fun n o ho => ?_, last0 := ?_, last1 := hl, thb := h.thb, tma := h.tma, tmr := h.tmr, lt := fun b hb' => by simpa using h.lt b hb' }
  · have hlt := (Array.getElem?_eq_some_iff.1 h.blk).1
    simp only [World.setCell, Array.getElem?_modify, if_true]
    rw [h.blk]
    rfl
  · obtain ⟨m, c, hm, hv⟩ := h.all
    exact ⟨m, c, hm.same (hs ma (ne ma _ h.tma (by simp))), hv⟩
  · refine (h.obj n o ho).same (fun b k hk => hs b (ne b _ hk ?_))
    have := (h.range n o ho).1
    intro e2
    simp only [Prod.mk.injEq] at e2
    omega
  · have := h.range n o ho
    exact ⟨this.1, by show n ≤ H.last + 1; omega⟩
  · have := h.last0
    show 0 ≤ H.last + 1
    omega

theorem HeapIs.tags {w : World} {τ τ' : Tag} {hb : Nat} {H : PH} {ma mr : Nat} {pb : Int → Nat} (h : HeapIs w τ hb H ma mr pb) (ht : TagOn w τ τ') : ∀ b t, τ b = some t → τ' b = τ b := fun b t hb => ht b (h.lt b (by rw [hb]; rfl))

/-- The counts change: no other block does. -/
theorem HeapIs.refsBlk {w w' : World} {τ : Tag} {hb : Nat} {H : PH} {ma mr : Nat} {pb : Int → Nat} (h : HeapIs w τ hb H ma mr pb) (hC : Chg (fun b => b == mr) w w') : ∀ b t, τ b = some t → t ≠ (0, 12) → w'.heap[b]? = w.heap[b]? := fun b t hb hne => hC.block b (h.lt b (by rw [hb]; rfl)) (by
    simp only [beq_eq_false_iff_ne]
    rintro rfl
    rw [h.tmr] at hb
    exact hne (Option.some.inj hb).symm)

/-- The counts change. -/
theorem HeapIs.refsChg {w w' : World} {τ : Tag} {hb : Nat} {H : PH} {ma mr : Nat} {pb : Int → Nat} (h : HeapIs w τ hb H ma mr pb) (hR : RefsAt w' mr) (hC : Chg (fun b => b == mr) w w') : HeapIs w' τ hb H ma mr pb := by
  have hs := h.refsBlk hC
  refine { h with blk := (hs hb _ h.thb (by simp)).trans h.blk, all := ?_, refs := hR, obj := fun n o ho => ?_, lt := fun b hb' => Nat.lt_of_lt_of_le (h.lt b hb') hC.size }
  · obtain ⟨m, c, hm, hv⟩ := h.all
    exact ⟨m, c, hm.same (hs ma _ h.tma (by simp)), hv⟩
  · refine (h.obj n o ho).same (fun b k hk => hs b _ hk ?_)
    have := (h.range n o ho).1
    intro e2
    simp only [Prod.mk.injEq] at e2
    omega

/-- An object that is there is turned, in its own blocks. -/
theorem HeapIs.wr {w w' : World} {τ τ' : Tag} {hb : Nat} {H : PH} {ma mr : Nat} {pb : Int → Nat} (h : HeapIs w τ hb H ma mr pb) {n : Int} {o : O} (ho : H.obj n = some o) (o' : O) (tg : ∀ b t, τ b = some t → τ' b = τ b) (hlt : ∀ b, (τ' b).isSome = true → b < w'.heap.size)
    (hs : ∀ b t, τ b = some t → t.1 ≠ n → w'.heap[b]? = w.heap[b]?) (hobj : ObjAt w' τ' n o' (pb n)) : HeapIs w' τ' hb ⟨H.last, upd H.obj n (some o')⟩ ma mr pb := by
  obtain ⟨hn1, hn2⟩ := h.range n o ho
  have h0 : (0 : Int) ≠ n := by omega
  have := h.put (w' := w') (τ' := τ') n o' (pb n) tg hlt hn1 hn2 (fun b t hb h1 _ _ => hs b t hb h1) (h.refs.same (hs mr _ h.tmr h0)) ?_ hobj
  · rwa [upd_self] at this
  · obtain ⟨m, c, hm, hv⟩ := h.all
    refine ⟨m, c, hm.same (hs ma _ h.tma h0), fun k hk => (hv k hk).trans ?_⟩
    rw [upd_self]
    by_cases e : k = n
    · subst e; rw [upd_same, ho]; rfl
    · rw [upd_other _ _ e]

/-- A block is of the heap from now on. -/
def Tag.add (τ : Tag) (v : Value) (t : Int × Nat) : Tag := fun b => if v.ownBlock = some b then some t else τ b

theorem heap_setCell_same {w : World} {b o : Nat} {c : Array Value} {t : TypeId} {u : Value} (h : w.heap[b]? = some (.cells c t (0, 0))) : (w.setCell ⟨b, o, none⟩ u).heap[b]? = some (.cells (c.setIfInBounds o u) t (0, 0)) := by
  simp only [World.setCell, Array.getElem?_modify, if_true, h]
  rfl

theorem HeapIs.setItems {w : World} {τ : Tag} {hb : Nat} {H : PH} {ma mr : Nat} {pb : Int → Nat} (h : HeapIs w τ hb H ma mr pb) {n : Int} {o : O} (ho : H.obj n = some o) {v : Value} {l : List V} {base : Nat}
    (hown : w.ownsRow base 24 3 v l.length (flat l)) (hf : ∀ b, v.ownBlock = some b → τ b = none) (hl : l.length ≤ 1073741824) :
    HeapIs (w.setCell ⟨pb n, 3, none⟩ v) (τ.add v (n, 1)) hb ⟨H.last, upd H.obj n (some { o with items := l })⟩ ma mr pb := by
  obtain ⟨iv, db, hO⟩ := h.obj n o ho
  have tg : ∀ b t, τ b = some t → (τ.add v (n, 1)) b = τ b := fun b t hb => by
    unfold Tag.add
    rw [if_neg]
    intro e
    rw [hf b e] at hb
    cases hb
  have hs : ∀ b, b ≠ pb n → (w.setCell ⟨pb n, 3, none⟩ v).heap[b]? = w.heap[b]? := fun b hb' => Below.heap_setCell _ _ _ _ hb'
  have ne : ∀ b t, τ b = some t → t ≠ (n, 0) → b ≠ pb n := fun b t hbt hne e => by
    subst e
    rw [hO.tob] at hbt
    exact hne (Option.some.inj hbt).symm
  refine h.wr ho _ tg (fun b hb' => ?_) (fun b t hbt h1 => hs b (ne b t hbt (fun e => h1 (by rw [e])))) ?_
  · rw [World.size_setCell]
    unfold Tag.add at hb'
    split at hb'
    · rename_i e
      obtain ⟨_, ⟨rfl, _⟩ | ⟨g, cap, cur, rfl, _, hh, _⟩⟩ := hown
      · cases e
      · cases e
        exact (Array.getElem?_eq_some_iff.1 hh).1
    · exact h.lt b hb'
  · refine ⟨v, db, { blk := (heap_setCell_same hO.blk).trans (by simp), row := ?_, dict := hO.dict.move (fun b k hk h2 => ⟨hs b (ne b _ hk ?_), tg b _ hk⟩), tob := (tg _ _ hO.tob).trans hO.tob, trow := fun b hb' => by unfold Tag.add; rw [if_pos hb'], small := hl, kind1 := hO.kind1, kind2 := hO.kind2 }⟩
    · refine ownsRow_same (ownsRow_base hown (fun _ _ => Nat.zero_le _)) (fun b hb' => hs b ?_)
      rintro rfl
      have := hf _ hb'
      rw [hO.tob] at this
      cases this
    · intro e
      simp only [Prod.mk.injEq] at e
      omega

end Go.Proofs.YtjhfjllgjgnmeaaGreat
