/- Package operate: fresh, add of rows, multiply of rows; Bin at '+' and '*'. -/
import Derived.Test.YtjhfjllgjgnmeaaGreatFr
import Derived.Test.YtjhfjllgjgnmeaaGreatHeapC
namespace Go.Proofs.YtjhfjllgjgnmeaaGreat
open Go.RowKit Go.Maps
attribute [local go_sem] World.cell?_alloc_some

/-- 'append(s, x...)' of two rows of values. -/
theorem wp_app {o : Oper} {a : Act} {K : Act → World → Prop} {Q : Exit → Act → World → Prop} {w : World} (s x : Operand)
    (ho : o.op = .call { callee := .builtin .append, args := #[s, x], argTypes := #[59, 59] }) {base : Nat} {v y : Value} {l m : List V} (hs : a.eval s = v) (hown : w.ownsRow base 24 3 v l.length (flat l))
    (hx : a.eval x = y) (hy : RowV w y m) (hlen : l.length + m.length ≤ 1073741824) (hbase : base ≤ w.heap.size)
    (h : ∀ v' w', w'.ownsRow base 24 3 v' (l ++ m).length (flat (l ++ m)) → w.grownBy w' v.ownBlock → K (a.put o.dst v') w') : o.wp Tryz.prog a w K Q := by
  obtain ⟨i0, hi, hz0, hz1, hz2⟩ := info_parts infoV
  rcases SrcIs.of_row hy with ⟨rfl, h1, h2⟩ | ⟨ad, c, rfl, hnews⟩
  · have hm : m = [] := List.length_eq_zero_iff.1 h1
    subst hm
    have hrun := run_append_owned_none (P := Tryz.prog) (w := w) base 59 o.type 24 i0 3 Tryz.underlying59 hi v l.length (flat l) hown
    unfold Oper.wp
    simp [execOp, ho, resolve, invoke, builtin, hs, hx, hrun, Result.andThen]
    exact h v w (by simpa using hown) ⟨rfl, rfl, rfl, Nat.le_refl _, fun _ _ _ => rfl⟩
  · refine wp_append_own w s x 59 ho base 24 i0 _ 3 32 Tryz.underlying59 hi hz0 hz1 hz2 rfl (by decide) v l.length (flat l) hs hown ad m.length c (flat m) hx (flat_length m) hnews (flat_one m) (by unfold maxLen; omega) (by omega) hbase ?_
    intro v' w' h1 h2 _
    exact h v' w' (by rw [List.length_append, flat_append]; exact h1) h2

/-- The same at the operation. -/
theorem wpList_app {ops : Array Oper} {rest : List Oper} {o : Oper} {a : Act} {Q : Exit → Act → World → Prop} {w : World} (hgd : o.guard = Option.none) (s x : Operand)
    (ho : o.op = .call { callee := .builtin .append, args := #[s, x], argTypes := #[59, 59] }) {base : Nat} {v y : Value} {l m : List V} (hs : a.eval s = v) (hown : w.ownsRow base 24 3 v l.length (flat l))
    (hx : a.eval x = y) (hy : RowV w y m) (hlen : l.length + m.length ≤ 1073741824) (hbase : base ≤ w.heap.size)
    (h : ∀ v' w', w'.ownsRow base 24 3 v' (l ++ m).length (flat (l ++ m)) → w.grownBy w' v.ownBlock → wpList Tryz.prog ops Q rest (a.put o.dst v') w') : wpList Tryz.prog ops Q (o :: rest) a w :=
  wpList_plain hgd fun _ hK => wp_app s x ho hs hown hx hy hlen hbase fun v' w' h1 h2 => hK _ _ (h v' w' h1 h2)

/-- The value of number n. -/
def V.refN (n : Int) : V := if h : (Lit.int .i64 n).wf = true then V.ref n h else V.nul
theorem V.refN_val {n : Int} (h : (Lit.int .i64 n).wf = true) : (V.refN n).val = .agg #[.int .i64 4, .int .i64 n, .string ByteArray.empty] := by
  unfold V.refN; rw [dif_pos h]; rfl
theorem V.refN_eq {n : Int} (h : (Lit.int .i64 n).wf = true) : V.refN n = V.ref n h := by
  unfold V.refN; rw [dif_pos h]

/-- What an operator that may make an object leaves. -/
def OpPost (w : World) (τ : Tag) (hb : Nat) (v : V) (x : Ex) (H' : PH) (e : Ending) (w' : World) : Prop :=
  e = .returned (.tuple #[v.val, x.val]) ∧ ∃ τ', HeapAt w' τ' hb H' ∧ Chg (own τ) w w' ∧ TagOn w τ τ'

theorem OpPost.of_below {w w' : World} {τ : Tag} {hb : Nat} {H : PH} {v : V} {x : Ex} {e : Ending} (h : HeapAt w τ hb H) (he : e = .returned (.tuple #[v.val, x.val])) (hB : Below w.heap.size w w') : OpPost w τ hb v x H e w' :=
  ⟨he, τ, h.below hB, Chg.of_below hB, TagOn.refl _ _⟩

/-- The numbers of a heap have room. -/
def PH.room (H : PH) : Prop := H.last < 1099511627776

theorem refN_wf {w : World} {τ : Tag} {hb : Nat} {H : PH} (h : HeapAt w τ hb H) (hr : H.room) : (Lit.int .i64 (H.last + 1)).wf = true := by
  obtain ⟨ma, mr, pb, h⟩ := h
  have := h.last0
  exact wf64 (by omega) (by unfold PH.room at hr; omega)

def freshS (H : PH) (kind : Int) (l : List V) : V × Ex × PH := if 4096 < l.length then (V.nul, Ex.raise memErr, H) else (V.refN (H.last + 1), Ex.none, H.made kind ByteArray.empty 0 l)

theorem fresh_any {w : World} {τ : Tag} {hb : Nat} {H : PH} (h : HeapAt w τ hb H) (kind : Int) (iv : Value) (items : List V) (hk : 1 ≤ kind ∧ kind ≤ 12) (hi : RowV w iv items) (hbig : H.room) :
    Calls Tryz.prog 112 #[.pointer (some ⟨hb, 0, Option.none⟩), .int .i64 kind, iv] w (OpPost w τ hb (freshS H kind items).1 (freshS H kind items).2.1 (freshS H kind items).2.2) := by
  unfold freshS
  by_cases hl : 4096 < items.length
  · rw [if_pos hl]
    refine (fresh_big _ kind iv items hi hl).mono ?_
    rintro e w1 ⟨rfl, hB⟩
    exact OpPost.of_below h rfl hB
  · rw [if_neg hl]
    refine (fresh_ok h kind iv items hk hi (by omega) hbig).mono ?_
    rintro e w1 ⟨rfl, h1⟩
    exact ⟨by rw [V.refN_val (refN_wf h hbig)], h1⟩

/-- Both results stored, behind whatever was done to the heap. -/
theorem fin_op {w W : World} {τ τ' : Tag} {hb : Nat} {H' : PH} {g g' : Nat} {o0 o1 o2 p0 p1 p2 p3 p4 : Value} {T T' : TypeId} (hne : g ≠ g') (x6 : Has W g #[o0, o1, o2] T) (x7 : Has W g' #[p0, p1, p2, p3, p4] T') (hC : Chg (own τ) w W) (hH : HeapAt W τ' hb H') (hT : TagOn w τ τ')
    (n6 : w.heap.size ≤ g) (n7 : w.heap.size ≤ g') (q6 : own τ' g = false) (q7 : own τ' g' = false) (x0 x1 x2 y0 y1 y2 y3 y4 : Value) :
    ((((((((W.setCell ⟨g, 0, Option.none⟩ x0).setCell ⟨g, 1, Option.none⟩ x1).setCell ⟨g, 2, Option.none⟩ x2).setCell ⟨g', 0, Option.none⟩ y0).setCell ⟨g', 1, Option.none⟩ y1).setCell ⟨g', 2, Option.none⟩ y2).setCell ⟨g', 3, Option.none⟩ y3).setCell ⟨g', 4, Option.none⟩ y4).heap[g]? = some (.cells #[x0, x1, x2] T (0, 0)) ∧
    ((((((((W.setCell ⟨g, 0, Option.none⟩ x0).setCell ⟨g, 1, Option.none⟩ x1).setCell ⟨g, 2, Option.none⟩ x2).setCell ⟨g', 0, Option.none⟩ y0).setCell ⟨g', 1, Option.none⟩ y1).setCell ⟨g', 2, Option.none⟩ y2).setCell ⟨g', 3, Option.none⟩ y3).setCell ⟨g', 4, Option.none⟩ y4).heap[g']? = some (.cells #[y0, y1, y2, y3, y4] T' (0, 0)) ∧
    ∃ τ', HeapAt ((((((((W.setCell ⟨g, 0, Option.none⟩ x0).setCell ⟨g, 1, Option.none⟩ x1).setCell ⟨g, 2, Option.none⟩ x2).setCell ⟨g', 0, Option.none⟩ y0).setCell ⟨g', 1, Option.none⟩ y1).setCell ⟨g', 2, Option.none⟩ y2).setCell ⟨g', 3, Option.none⟩ y3).setCell ⟨g', 4, Option.none⟩ y4) τ' hb H' ∧
      Chg (own τ) w ((((((((W.setCell ⟨g, 0, Option.none⟩ x0).setCell ⟨g, 1, Option.none⟩ x1).setCell ⟨g, 2, Option.none⟩ x2).setCell ⟨g', 0, Option.none⟩ y0).setCell ⟨g', 1, Option.none⟩ y1).setCell ⟨g', 2, Option.none⟩ y2).setCell ⟨g', 3, Option.none⟩ y3).setCell ⟨g', 4, Option.none⟩ y4) ∧ TagOn w τ τ' := by
  refine ⟨(oPutE hne _ _ _ _ _).trans (putV x6 _ _ _), putE ((oPutV (Ne.symm hne) _ _ _).trans x7) _ _ _ _ _, τ', ?_, ?_, hT⟩
  · refine hH.chg (ρ := fun b => b == g || b == g') (Chg.refl _ _ |>.setCell (fun _ => by simp) _ |>.setCell (fun _ => by simp) _ |>.setCell (fun _ => by simp) _ |>.setCell (fun _ => by simp) _ |>.setCell (fun _ => by simp) _ |>.setCell (fun _ => by simp) _ |>.setCell (fun _ => by simp) _ |>.setCell (fun _ => by simp) _) ?_
    intro b hb'
    have e1 : b ≠ g := fun e => by rw [e, q6] at hb'; cases hb'
    have e2 : b ≠ g' := fun e => by rw [e, q7] at hb'; cases hb'
    simp [e1, e2]
  · have n1 : ∀ {o : Nat}, (⟨g, o, Option.none⟩ : Addr).block < w.heap.size → own τ (⟨g, o, Option.none⟩ : Addr).block = true := fun h => absurd h (by show ¬ g < w.heap.size; omega)
    have n2 : ∀ {o : Nat}, (⟨g', o, Option.none⟩ : Addr).block < w.heap.size → own τ (⟨g', o, Option.none⟩ : Addr).block = true := fun h => absurd h (by show ¬ g' < w.heap.size; omega)
    exact (((((((hC.setCell n1 _).setCell n1 _).setCell n1 _).setCell n2 _).setCell n2 _).setCell n2 _).setCell n2 _).setCell n2 _

theorem PH.row_k {H : PH} {v : V} (h : H.row v = true) : v.k = 4 := by
  unfold PH.row PH.kind PH.of at h
  by_cases hk : v.k = 4
  · exact hk
  · rw [if_neg hk] at h; cases h

theorem PH.row_kind {H : PH} {v : V} (h : H.row v = true) : 1 ≤ H.kind v ∧ H.kind v ≤ 12 := by
  unfold PH.row at h
  simp only [Bool.or_eq_true, beq_iff_eq] at h
  omega

/-- 'v' own block beside the heap's. -/
def ownAnd (τ : Tag) (v : Value) (b : Nat) : Bool := own τ b || v.ownBlock == some b

section
variable {W W3 : World} {τ : Tag} {va : Value} {l : List V}
theorem ownAnd_old (hO : OwnsV W W3 va l) : ∀ b, b < W.heap.size → ownAnd τ va b = own τ b := fun b hb => by
  have : (va.ownBlock == some b) = false := by
    simp only [beq_eq_false_iff_ne]
    intro e
    have := owns_base hO e
    omega
  rw [ownAnd, this, Bool.or_false]
theorem ownAnd_new (hO : OwnsV W W3 va l) (hτ : ∀ b, W3.heap.size ≤ b → own τ b = false) : ∀ b, W3.heap.size ≤ b → ownAnd τ va b = false := fun b hb => by
  have : (va.ownBlock == some b) = false := by
    simp only [beq_eq_false_iff_ne]
    intro e
    have := owns_lt hO e
    omega
  rw [ownAnd, this, hτ b hb]
  rfl
theorem ownAnd_of {b : Nat} (h : own τ b = true) : ownAnd τ va b = true := by rw [ownAnd, h]; rfl
theorem ownAnd_row {b : Nat} (h : va.ownBlock = some b) : ownAnd τ va b = true := by simp [ownAnd, h]
end

def addRowS (H : PH) (a b : V) : V × Ex × PH := freshS H (H.kind a) (H.items a ++ H.items b)

set_option maxRecDepth 100000 in
set_option maxHeartbeats 3200000 in
/-- 'add' of two rows of one kind. -/
theorem add_rows {w : World} {τ : Tag} {hb : Nat} {H : PH} (h : HeapAt w τ hb H) (a b : V) (hw : H.row a = true) (hk : H.kind a = H.kind b) (hbig : H.room) (hla : (H.items a).length ≤ 4096) (hlb : (H.items b).length ≤ 4096) :
    Calls Tryz.prog 69 #[.pointer (some ⟨hb, 0, Option.none⟩), a.val, b.val] w (OpPost w τ hb (addRowS H a b).1 (addRowS H a b).2.1 (addRowS H a b).2.2) := by
  obtain ⟨x4, x5, x6, x7, hB0⟩ := four w a b
  have h3' : (a.k == 3) = false := by rw [PH.row_k hw]; decide
  have hnew := own_new h
  have q4 := hnew w.heap.size (Nat.le_refl _)
  have q5 := hnew (w.heap.size + 1) (by omega)
  have q6 := hnew (w.heap.size + 1 + 1) (by omega)
  have q7 := hnew (w.heap.size + 1 + 1 + 1) (by omega)
  obtain ⟨⟨x4c0, x4c1, x4c2⟩, ⟨x4f0, x4f1, x4f2⟩, x4l⟩ := factsV x4
  obtain ⟨⟨x5c0, x5c1, x5c2⟩, ⟨x5f0, x5f1, x5f2⟩, x5l⟩ := factsV x5
  have h0 := h.below hB0
  go_enter Tryz.func69, Tryz.ntmps69
  go_wp2_with fail
  generalize ((((w.alloc (.cells #[.int .i64 a.k, .int .i64 a.n, .string a.s] 24)).alloc (.cells #[.int .i64 b.k, .int .i64 b.n, .string b.s] 24)).alloc (.cells #[.int .i64 0, .int .i64 0, .string ⟨#[]⟩] 24)).alloc (.cells #[.string ⟨#[]⟩, .int .i64 0, .int .i64 0, .string ⟨#[]⟩, .bool false] 33)) = w1 at *
  refine wp_region_M 13 [(0, true), (1, true), (2, false), (3, true), (4, true), (5, true), (7, true), (8, true), (6, false), (9, false), (10, true), (11, true), (12, true)] [] [] (fun _ => false) (by kernel_rfl) (by kernel_rfl) (by simp) (fun _ _ => rfl) ?_
  have hR := undrewR w1
  repeat
    first
    | refine M_skip rfl (by rfl) (fun _ _ _ h => h) ?_
    | refine M_pass rfl (by rfl) (fun _ _ => rfl) fun W hBW => ?_
      replace hR := btr hR hBW
      clear hBW
    | refine M_free rfl (by rfl) ?_
      apply Exists.intro
      refine ⟨fun W hW => ?_, fun _ _ _ h => h, ?_⟩
      focus
        have hq := hW.allF
        first | (go_simp; done) | (go_simp; with_reducible rfl)
    simp only [Act.put, List.setIfInBounds_toArray, List.set_cons_zero, List.set_cons_succ]
  refine M_call rfl (by rfl) (fun _ _ => rfl) fun W hBW hSW => ?_
  replace hR := btr hR hBW
  clear hBW
  refine ⟨_, _, _, by go_simp; try (repeat' apply And.intro) <;> rfl, orow_any (h0.below hR) a, ?_⟩
  clear hSW
  rintro e W ⟨rfl, hB⟩
  refine ⟨_, rfl, hB, ?_⟩
  replace hR := btr hR hB
  clear hB
  simp only [Act.put, List.setIfInBounds_toArray, List.set_cons_zero, List.set_cons_succ]
  rw [hw]
  repeat
    first
    | refine M_skip rfl (by rfl) (fun _ _ _ h => h) ?_
    | refine M_pass rfl (by rfl) (fun _ _ => rfl) fun W hBW => ?_
      replace hR := btr hR hBW
      clear hBW
    | refine M_free rfl (by rfl) ?_
      apply Exists.intro
      refine ⟨fun W hW => ?_, fun _ _ _ h => h, ?_⟩
      focus
        have hq := hW.allF
        first | (go_simp; done) | (go_simp; with_reducible rfl)
    simp only [Act.put, List.setIfInBounds_toArray, List.set_cons_zero, List.set_cons_succ]
  refine M_call rfl (by rfl) (fun _ _ => rfl) fun W hBW hSW => ?_
  replace hR := btr hR hBW
  clear hBW
  refine ⟨_, _, _, by go_simp; try (repeat' apply And.intro) <;> rfl, Kind_any (h0.below hR) a, ?_⟩
  clear hSW
  rintro e W ⟨rfl, hB⟩
  refine ⟨_, rfl, hB, ?_⟩
  replace hR := btr hR hB
  clear hB
  simp only [Act.put, List.setIfInBounds_toArray, List.set_cons_zero, List.set_cons_succ]
  rw [hk]
  repeat
    first
    | refine M_skip rfl (by rfl) (fun _ _ _ h => h) ?_
    | refine M_pass rfl (by rfl) (fun _ _ => rfl) fun W hBW => ?_
      replace hR := btr hR hBW
      clear hBW
    | refine M_free rfl (by rfl) ?_
      apply Exists.intro
      refine ⟨fun W hW => ?_, fun _ _ _ h => h, ?_⟩
      focus
        have hq := hW.allF
        first | (go_simp; done) | (go_simp; with_reducible rfl)
    simp only [Act.put, List.setIfInBounds_toArray, List.set_cons_zero, List.set_cons_succ]
  refine M_call rfl (by rfl) (fun _ _ => rfl) fun W hBW hSW => ?_
  replace hR := btr hR hBW
  clear hBW
  refine ⟨_, _, _, by go_simp; try (repeat' apply And.intro) <;> rfl, Kind_any (h0.below hR) b, ?_⟩
  clear hSW
  rintro e W ⟨rfl, hB⟩
  refine ⟨_, rfl, hB, ?_⟩
  replace hR := btr hR hB
  clear hB
  simp only [Act.put, List.setIfInBounds_toArray, List.set_cons_zero, List.set_cons_succ]
  repeat
    first
    | refine M_skip rfl (by rfl) (fun _ _ _ h => h) ?_
    | refine M_pass rfl (by rfl) (fun _ _ => rfl) fun W hBW => ?_
      replace hR := btr hR hBW
      clear hBW
    | refine M_free rfl (by rfl) ?_
      apply Exists.intro
      refine ⟨fun W hW => ?_, fun _ _ _ h => h, ?_⟩
      focus
        have hq := hW.allF
        first | (go_simp; done) | (go_simp; with_reducible rfl)
    simp only [Act.put, List.setIfInBounds_toArray, List.set_cons_zero, List.set_cons_succ]
  refine M_end0 fun w2 hBW hSW => ?_
  replace hR := btr hR hBW
  clear hBW
  simp only [List.drop_succ_cons, List.drop_zero]
  replace x4 := Has.bel x4 hR
  replace x5 := Has.bel x5 hR
  replace x6 := Has.bel x6 hR
  replace x7 := Has.bel x7 hR
  clear x4c0 x4c1 x4c2 x4f0 x4f1 x4f2 x4l x5c0 x5c1 x5c2 x5f0 x5f1 x5f2 x5l
  replace hB0 := btr hB0 hR
  clear h0 hR hSW
  have h0 := h.below hB0
  have hlt := own_new h0
  obtain ⟨⟨x4c0, x4c1, x4c2⟩, ⟨x4f0, x4f1, x4f2⟩, x4l⟩ := factsV x4
  obtain ⟨⟨x5c0, x5c1, x5c2⟩, ⟨x5f0, x5f1, x5f2⟩, x5l⟩ := factsV x5
  go_wp2_with fail
  refine wp_region_M 14 [(0, true), (1, true), (2, true), (4, true), (5, true), (7, true), (8, true), (3, false), (6, false), (9, false), (10, false), (11, false), (12, true), (13, true)] [] [] (own τ) (by kernel_rfl) (by kernel_rfl) (by simp) hlt ?_
  have hR := undrewR w2
  repeat
    first
    | refine M_skip rfl (by rfl) (fun _ _ _ h => h) ?_
    | refine M_pass rfl (by rfl) (fun b hb => hlt b (Nat.le_trans hR.size hb)) fun W hBW => ?_
      replace hR := btr hR hBW
      clear hBW
    | refine M_free rfl (by rfl) ?_
      apply Exists.intro
      refine ⟨fun W hW => ?_, fun _ _ _ h => h, ?_⟩
      focus
        have hq := hW.all
        first | (go_simp; done) | (go_simp; with_reducible rfl)
    simp only [Act.put, List.setIfInBounds_toArray, List.set_cons_zero, List.set_cons_succ]
  refine M_call rfl (by rfl) (fun b hb => hlt b (Nat.le_trans hR.size hb)) fun W hBW hSW => ?_
  replace hR := btr hR hBW
  clear hBW
  refine ⟨_, _, _, by go_simp; try (repeat' apply And.intro) <;> rfl, Kind_any (h0.below hR) a, ?_⟩
  clear hSW
  rintro e W ⟨rfl, hB⟩
  refine ⟨_, rfl, hB, ?_⟩
  replace hR := btr hR hB
  clear hB
  simp only [Act.put, List.setIfInBounds_toArray, List.set_cons_zero, List.set_cons_succ]
  refine M_callW rfl (by rfl) fun W hBW hSW => ?_
  replace hR := btr hR hBW
  clear hBW hSW
  refine ⟨_, _, _, by go_simp; try (repeat' apply And.intro) <;> rfl, Items_any (h0.below hR) a, ?_⟩
  rintro e W3 ⟨va, rfl, hva, hB⟩
  have s3 := hB.size
  have hW3 : w2.heap.size ≤ W.heap.size := hR.size
  have hlt3 : ∀ b, W3.heap.size ≤ b → own τ b = false := fun b hb' => hlt b (Nat.le_trans hW3 (Nat.le_trans hB.size hb'))
  refine ⟨_, ownAnd τ va, rfl, Chg.of_below hB, ownAnd_old hva, ownAnd_new hva hlt3, ?_⟩
  replace hR := btr hR hB
  simp only [Act.put, List.setIfInBounds_toArray, List.set_cons_zero, List.set_cons_succ]
  refine M_call rfl (by rfl) (ownAnd_new hva hlt3) fun W4 hBW hSW => ?_
  replace hR := btr hR hBW
  have hva4 := ownsRow_same hva (fun b hb' => hBW.block b (owns_lt hva hb'))
  have s4 := hBW.size
  clear hBW hSW hB
  refine ⟨_, _, _, by go_simp; try (repeat' apply And.intro) <;> rfl, Items_any (h0.below hR) b, ?_⟩
  rintro e W5 ⟨vb, rfl, hvb, hB⟩
  refine ⟨_, rfl, hB, ?_⟩
  replace hR := btr hR hB
  have hva5 := ownsRow_same hva4 (fun b hb' => hB.block b (owns_lt hva4 hb'))
  have s5 := hB.size
  clear hB hva4
  simp only [Act.put, List.setIfInBounds_toArray, List.set_cons_zero, List.set_cons_succ]
  refine M_step rfl (by rfl) fun W6 hBW hSW K hK => ?_
  replace hR := btr hR hBW
  have hva6 := ownsRow_same hva5 (fun b hb' => hBW.block b (owns_lt hva5 hb'))
  have hvb6 : RowV W6 vb (H.items b) := (RowV.of_owns (ownsRow_base hvb (fun _ _ => Nat.zero_le _))).same (fun b hb' => hBW.block b (owns_lt hvb hb'))
  have s6 := hBW.size
  clear hBW hSW hva5
  refine wp_app _ _ rfl rfl hva6 rfl hvb6 (by omega) (by omega) ?_
  intro v' W7 hv7 hg
  have s7 := hg.size
  refine hK _ _ (ownAnd τ va) (Chg.of_grownBy hg (fun k hk _ => ownAnd_row hk)) (fun _ _ => rfl) (fun b hb' => ownAnd_new hva hlt3 b (by omega)) ?_
  replace hR : Below w2.heap.size w2 W7 := hR.trans ⟨hg.os, hg.tape, hg.output, hg.size, fun b hb' => hg.block b (by have := hR.size; omega) (fun e => by have := owns_base hva e.symm; omega)⟩
  clear hg hva6 hvb6 hK
  simp only [Act.put, List.setIfInBounds_toArray, List.set_cons_zero, List.set_cons_succ]
  refine M_callW rfl (by rfl) fun W8 hBW hSW => ?_
  replace hR := btr hR hBW
  have hv8 : RowV W8 v' (H.items a ++ H.items b) := (RowV.of_owns (ownsRow_base hv7 (fun _ _ => Nat.zero_le _))).same (fun b hb' => hBW.block b (owns_lt hv7 hb'))
  have s8 := hBW.size
  clear hBW hSW
  refine ⟨_, _, _, by go_simp; try (repeat' apply And.intro) <;> rfl, fresh_any (h0.below hR) (H.kind a) v' (H.items a ++ H.items b) (PH.row_kind hw) hv8 hbig, ?_⟩
  rintro e W9 ⟨rfl, τ', hH', hC', hT'⟩
  refine ⟨_, ownAnd τ' va, rfl, hC'.mono (fun b _ hb' => ownAnd_of hb'), fun b hb' => by rw [ownAnd, ownAnd, own, hT' b hb']; rfl, fun b hb' => ?_, ?_⟩
  · have e1 : own τ' b = false := own_new hH' b hb'
    have s9 := hC'.size
    have e2 := ownAnd_new (τ := τ) hva hlt3 b (by omega)
    rw [ownAnd, Bool.or_eq_false_iff] at e2
    rw [ownAnd, e1, e2.2]
    rfl
  simp only [Act.put, List.setIfInBounds_toArray, List.set_cons_zero, List.set_cons_succ]
  rw [show freshS H (H.kind a) (H.items a ++ H.items b) = addRowS H a b from rfl] at *
  have hT2 : TagOn w τ τ' := fun b hb' => hT' b (by have := hB0.size; have := hR.size; omega)
  have qq : ∀ g, g < w2.heap.size → own τ g = false → own τ' g = false := fun g hg h0 => by rw [own, hT' g (by have := hR.size; omega)]; exact h0
  replace hR := b0 W9
  repeat
    first
    | refine M_skip rfl (by rfl) (fun _ _ _ h => h) ?_
    | refine M_pass rfl (by rfl) (fun b hb => hlt b (Nat.le_trans hR.size hb)) fun W hBW => ?_
      replace hR := btr hR hBW
      clear hBW
    | refine M_free rfl (by rfl) ?_
      apply Exists.intro
      refine ⟨fun W hW => ?_, fun _ _ _ h => h, ?_⟩
      focus
        have hq := hW.all
        first | (go_simp; done) | (go_simp; with_reducible rfl)
    simp only [Act.put, List.setIfInBounds_toArray, List.set_cons_zero, List.set_cons_succ]
  refine M_end0 fun Wz hBW hSW => ?_
  replace hR := btr hR hBW
  clear hBW
  simp only [List.drop_succ_cons, List.drop_zero]
  have z6 : Has Wz (w.heap.size + 1 + 1) _ _ := Has.chg (W := w2.drew) x6 hSW q6
  have z7 : Has Wz (w.heap.size + 1 + 1 + 1) _ _ := Has.chg (W := w2.drew) x7 hSW q7
  have l6 := x6.lt
  have l7 := x7.lt
  have hHz := hH'.below hR
  have hCz : Chg (own τ) w Wz := (Chg.of_below hB0).trans ((Chg.refl _ _).drew.trans hSW (fun _ _ h => h)) (fun _ _ h => h)
  have p6 := qq _ l6 q6
  have p7 := qq _ l7 q7
  clear hnew hlt hlt3 h0 x4 x5 x6 x7 qq hT' hC' hH' hR hSW hv8 hv7 hvb hva x4l x5l
  obtain ⟨⟨z6c0, z6c1, z6c2⟩, ⟨z6f0, z6f1, z6f2⟩, z6l⟩ := factsV z6
  obtain ⟨⟨z7c0, z7c1, z7c2, z7c3, z7c4⟩, ⟨z7f0, z7f1, z7f2, z7f3, z7f4⟩, z7l⟩ := factsE z7
  go_wp2
  obtain ⟨f1, f2, f3⟩ := fin_op (by omega) z6 z7 hCz hHz hT2 (by omega) (by omega) p6 p7 _ _ _ _ _ _ _ _
  exact ret_VE rfl rfl rfl rfl rfl f1 f2 rfl ⟨rfl, f3⟩

end Go.Proofs.YtjhfjllgjgnmeaaGreat
